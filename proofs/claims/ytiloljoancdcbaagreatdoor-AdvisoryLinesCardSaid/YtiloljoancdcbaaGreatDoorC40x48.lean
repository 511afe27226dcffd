/-
  Lemmas for the law.
-/
import Derived.Test.YtiloljoancdcbaaGreatDoorC40x47
import Derived.Test.YtiloljoancdcbaaGreatDoorC40x26
import Derived.Test.YtiloljoancdcbaaGreatDoorC40x12
import Derived.Test.YtiloljoancdcbaaGreatDoorC40x02
import Derived.Test.YtiloljoancdcbaaGreatDoorCards
import Derived.Test.YtiloljoancdcbaaGreatDoorTie
import Derived.Test.YtiloljoancdcbaaGreatDoorRows
import Derived.ProofKit
import Derived.SliceStrings
import Derived.OpenShut
import Derived.SizedLaws
import Derived.Deep.DeepHandedRow
import Derived.Lib.LaidTab
import Derived.JoinedOf
set_option linter.all false
set_option maxRecDepth 100000
set_option maxHeartbeats 6400000
namespace Go.Proofs.YtiloljoancdcbaaGreatDoor
open Go.RowKit
def revMade : List V.Bs := [[49], [50], [48], [48, 49], [120]]
def sevMade : List V.Bs := [[51], [49, 48], [49, 49], [48]]
def schMade : List V.Bs := [[115, 101, 109, 118, 101, 114], [100, 101, 98, 105, 97, 110], [100, 111, 116, 116, 101, 100], [111, 116, 104, 101, 114]]
def rngMade : List V.Bs := [[42], [62, 61, 49, 46, 48], [61, 49, 46, 48, 46, 48], [110, 111, 110, 101], [60, 50], [62, 49, 32, 60, 50], [62, 61, 49, 32, 124, 124, 32, 61, 51]]
theorem wm {l : List V.Bs} (h : ∀ x ∈ l, x.length ≤ 300) {x : V.Bs} (hx : x ∈ l) : x.length ≤ 300 := h x hx
theorem ztk {L : List V.Bs} {a b c d : V.Bs} (ha : a.length ≤ 300) (hb : b.length ≤ 300) (hc : c.length ≤ 300) (hd : d.length ≤ 300) : zf7 L [a, b, c, d] :=
 ⟨rfl, fun x hx => by
   simp only [List.mem_cons, List.not_mem_nil, or_false] at hx
   rcases hx with rfl | rfl | rfl | rfl
   · exact .inl ha
   · exact .inl hb
   · exact .inl hc
   · exact .inl hd⟩
theorem getD_mem {L : List V.Bs} {i : Nat} (h : i < L.length) : L.getD i [] ∈ L := by
 rw [List.getD_eq_getElem?_getD, List.getElem?_eq_getElem h]
 exact List.getElem_mem _
theorem zv7 {P : Prop} (h : P := by
 go_upto_region 10 with fail
 have hbq : Below we.heap.size we (we.alloc (.cells #[.slice (some ⟨g, 0, none⟩) 4 4] 47)) := (zvt _ _).alloc (zvs _) _
 have HWQ := zvq (HW1.out.call hbq)
 have HTQ := zvq (HT1.out.below hbq)
 have HBQ := zvr HB1 hbq
 have HGQ := zvq ((hbq.block g (Array.getElem?_eq_some_iff.1 HG1.out).1).trans HG1.out)
 have HNQ : Hid (∀ j u, (lslE (⟨some ⟨g, 0, none⟩, 4, 4⟩ : Lsl))[j]? = some u -> (we.alloc (.cells #[.slice (some ⟨g, 0, none⟩) 4 4] 47)).cell? ⟨we.heap.size, j, none⟩ = some u) := zvq (fun j u hj => by rw [ze, if_pos rfl]; simpa [lslE, Lsl.v] using hj)
 have HNS : Hid (b + 1 ≤ (we.alloc (.cells #[.slice (some ⟨g, 0, none⟩) 4 4] 47)).heap.size) := zvq (by have := HTQ.out.lt; omega)
 clear hbq HW1 HT1 HB1 HG1
 go_wp2_with (first | (refine uy zal (by decide) zbv zat (by decide) rfl _ _ 50 rfl Tryz.underlying50 (b + 1) (.slice la ls.length lc) us rfl HWQ.out.row.row we.heap.size (⟨some ⟨g, 0, none⟩, 4, 4⟩ : Lsl) rfl HNQ.out (by have := HJ.out; omega) HNS.out ?_; intro v9 w9 hr9 hg9 ho9) | fail)
 have HW9 := zvq (HWQ.out.add HMG.out (Array.getElem?_eq_some_iff.1 HGQ.out).1 HGQ.out HLM.out hr9 hg9 ho9)
 have HT9 := zvq (HTQ.out.grown hg9 (fun e => by have := GRow.block HWQ.out.row.row _ e; omega) (fun c e => by have := GRow.block HWQ.out.row.row _ e; omega))
 have HB9 := zvq (HBQ.out.grown hg9 HBQ.out.size (fun c e => by have := GRow.block HWQ.out.row.row _ e; have := HBE.out; omega))
 clear hr9 hg9 ho9 HWQ HTQ HBQ HGQ HNQ HNS
 go_wp2
 go_roundw
 case rel => exact ⟨j - 1, w9.heap.size, _, _, by have := HJ.out; omega, by rw [show ((j - 1 : Nat) : Int) = (j : Int) - 1 by omega], by have := HJ.out; rw [List.length_append]; simp; omega, by have := HJ.out; rw [List.length_append, List.length_append]; simp; omega, HW9.out, zvs _, HT9.out.le (by omega), HB9.out⟩
 case measure => simp [intOf]; omega) : P := h
theorem zf1 (a : Option Addr) (m cap0 : Nat) (L : List V.Bs) (v : Value) (w : World) (hm : zg w) (hp : zcx w) (ht : Nums w a m) (hmc : m ≤ cap0) (hs : Strs w v L) (hl : L.length ≤ 140737488355327) (_hx : ∀ x ∈ L, x.length ≤ maxLen) :
  Calls Tryz.prog 5 #[.slice a m cap0, v] w fun e w' => e = .returned (.bool true) /\ Below w.heap.size w w' := by
 obtain ⟨va, vc, rfl⟩ := hs.slice
 have HM := zvq hm
 have HP := zvq hp
 have HT := zvq (And.intro ht hmc)
 have HS := zvq hs
 have HLL := zvq hl
 have HXL := zvq _hx
 clear hm hp ht hmc hs hl _hx
 go_enter Tryz.func5, Tryz.ntmps5
 go_wp2_with fail
 refine (zvd a m cap0 80 w HT.out.1 HT.out.2 (by decide)).mono ?_
 rintro e w1 ⟨rfl, ht1, hb1, hz1⟩
 have HT1 := zvq ht1
 have HB1 := zvq hb1
 have HZ1 := zvq hz1
 obtain ⟨b, hb⟩ : ∃ b, b = w.heap.size := ⟨_, rfl⟩
 have HBE := zvq hb
 rw [← hb] at HT1 HZ1 ⊢
 clear ht1 hb1 hz1 hb HT
 go_wp2_with fail
 refine (zss w1).mono ?_
 rintro e w2 ⟨rfl, rfl⟩
 go_wp2_with fail
 refine (zew b 0 w1 V.madeIds HT1.out (by omega) (by decide) (by decide)).mono ?_
 rintro e w3 ⟨id, hid, rfl, ht3, hg3⟩
 have HID : Hid (id.length ≤ 300) := zvq (wm (by decide) hid)
 have HT3 := zvq ht3
 have HB3 := zvq (HB1.out.trans (km hg3 (by have := HBE.out; omega) HB1.out.size))
 have HZ3 : Hid (b < w3.heap.size) := zvq (by have := HZ1.out; have := hg3.size; omega)
 clear hid ht3 hg3 HT1 HB1 HZ1
 go_wp2_with fail
 refine (zew b 1 w3 revMade HT3.out (by omega) (by decide) (by decide)).mono ?_
 rintro e w4 ⟨s1, hs1, rfl, ht4, hg4⟩
 have HS1 : Hid (s1.length ≤ 300) := zvq (wm (by decide) hs1)
 have HT4 := zvq ht4
 have HB4 := zvq (HB3.out.trans (km hg4 (by have := HBE.out; omega) HB3.out.size))
 have HZ4 : Hid (b < w4.heap.size) := zvq (by have := HZ3.out; have := hg4.size; omega)
 clear hs1 ht4 hg4 HT3 HB3 HZ3
 go_wp2_with fail
 refine (zew b 2 w4 sevMade HT4.out (by omega) (by decide) (by decide)).mono ?_
 rintro e w5 ⟨s2, hs2, rfl, ht5, hg5⟩
 have HS2 : Hid (s2.length ≤ 300) := zvq (wm (by decide) hs2)
 have HT5 := zvq ht5
 have HB5 := zvq (HB4.out.trans (km hg5 (by have := HBE.out; omega) HB4.out.size))
 have HZ5 : Hid (b < w5.heap.size) := zvq (by have := HZ4.out; have := hg5.size; omega)
 clear hs2 ht5 hg5 HT4 HB4 HZ4
 have hb6 : Below w5.heap.size w5 ((w5.alloc (.cells (lcell [[97, 100, 118, 105, 115, 111, 114, 121], id, s1, s2]) 9)).alloc (.cells #[.slice (some ⟨w5.heap.size, 0, none⟩) 4 4] 47)) := ((zvt _ w5).alloc (zvs _) _).alloc (by simp) _
 have HW6 := zvq (LS.one (L := L) HZ5.out (ztk (a := [97, 100, 118, 105, 115, 111, 114, 121]) (by decide) HID.out HS1.out HS2.out))
 have HT6 := zvq (HT5.out.below hb6)
 have HB6 := zvr HB5 hb6
 have HZ6 : Hid (w5.heap.size + 2 ≤ ((w5.alloc (.cells (lcell [[97, 100, 118, 105, 115, 111, 114, 121], id, s1, s2]) 9)).alloc (.cells #[.slice (some ⟨w5.heap.size, 0, none⟩) 4 4] 47)).heap.size) := zvq (by simp)
 clear hb6 HT5 HB5 HID HS1 HS2
 go_wp2_with fail
 refine (zj3 b 3 4 _ HT6.out (by omega) (by decide) (by decide)).mono ?_
 rintro e w7 ⟨r, hr, rfl, ht7, hg7⟩
 have HT7 := zvq ht7
 have HB7 := zvq (HB6.out.trans (km hg7 (by have := HBE.out; omega) HB6.out.size))
 have HW7 := zvq (HW6.out.other hg7 (.inl rfl))
 have HZ7 : Hid (w5.heap.size + 2 ≤ w7.heap.size) := zvq (Nat.le_trans HZ6.out hg7.size)
 have HR : Hid (r ≤ 3) := zvq (by omega)
 clear hr ht7 hg7 HT6 HB6 HW6 HZ6
 generalize w5.heap.size = g0 at *
 go_wp2_with fail
 go_loopw [6, 7] (fun lv nv W => ∃ (j M : Nat) (us : List Lsl) (ls : List (List V.Bs)), j ≤ 3 /\ nv = .int .i64 j /\ ls.length + j ≤ 4 /\ us.length = ls.length /\ LS L b M W lv us ls /\ M ≤ W.heap.size /\ Tape W b (24 - 6 * j) /\ Below w.heap.size w W) (fun _ nv _ => (intOf nv).toNat)
 case atStart => exact ⟨r, _, _, _, HR.out, rfl, by have := HR.out; simp; omega, rfl, HW7.out, HZ7.out, HT7.out.le (by have := HR.out; omega), HB7.out⟩
 case round =>
  clear HW7 HZ7 HT7 HB7 HR
  obtain ⟨j, M, us, ls, hj, rfl, hjl, hul, hls, hMz, ht, hb⟩ := hrel
  have HW := zvq hls
  have HMZ := zvq hMz
  have HT := zvq ht
  have HB := zvq hb
  have HJ := zvq (And.intro hj (And.intro hjl hul))
  obtain ⟨la, lc, hlv⟩ := hls.row.slice
  subst hlv
  clear hls hMz ht hb hjl hul
  by_cases hpos : 0 < j
  ·have i1 : (0 : Int) < (j : Int) := by omega
   have wr1 : IntKind.i64.wrap ((j : Int) - 1) = (j : Int) - 1 := IntWalk.i64_in _ (by omega)
   go_wp2_with fail
   refine (zew b _ wr schMade HT.out (by omega) (by decide) (by decide)).mono ?_
   rintro e wa ⟨q1, hq1, rfl, ht, hg⟩
   have Hq1 : Hid (q1.length ≤ 300) := zvq (wm (by decide) hq1)
   have HTwa := zvq ht
   have HBwa := zvq (HB.out.trans (km hg (by have := HBE.out; omega) HB.out.size))
   have HWwa := zvq (HW.out.other hg (.inl rfl))
   have HMwa : Hid (M ≤ wa.heap.size) := zvq (by have := HMZ.out; have := hg.size; omega)
   clear hq1 ht hg HT HB HW HMZ
   go_wp2_with fail
   refine (zqd wa).mono ?_
   rintro e wb ⟨rfl, rfl⟩
   go_wp2_with fail
   refine (zew b _ wa zvi HTwa.out (by omega) (by decide) (by decide)).mono ?_
   rintro e wc ⟨q2, hq2, rfl, ht, hg⟩
   have Hq2 : Hid (q2.length ≤ 300) := zvq (wm (by decide) hq2)
   have HTwc := zvq ht
   have HBwc := zvq (HBwa.out.trans (km hg (by have := HBE.out; omega) HBwa.out.size))
   have HWwc := zvq (HWwa.out.other hg (.inl rfl))
   have HMwc : Hid (M ≤ wc.heap.size) := zvq (by have := HMwa.out; have := hg.size; omega)
   clear hq2 ht hg HTwa HBwa HWwa HMwa
   go_wp2_with fail
   refine (zew b _ wc rngMade HTwc.out (by omega) (by decide) (by decide)).mono ?_
   rintro e wd ⟨q3, hq3, rfl, ht, hg⟩
   have Hq3 : Hid (q3.length ≤ 300) := zvq (wm (by decide) hq3)
   have HTwd := zvq ht
   have HBwd := zvq (HBwc.out.trans (km hg (by have := HBE.out; omega) HBwc.out.size))
   have HWwd := zvq (HWwc.out.other hg (.inl rfl))
   have HMwd : Hid (M ≤ wd.heap.size) := zvq (by have := HMwc.out; have := hg.size; omega)
   clear hq3 ht hg HTwc HBwc HWwc HMwc
   have hbl : Below wd.heap.size wd (wd.alloc (.cells (lcell [[97, 102, 102, 101, 99, 116, 115], q1, q2, q3]) 9)) := (zvt _ _).alloc (zvs _) _
   have HTe := zvq (HTwd.out.below hbl)
   have HBe := zvr HBwd hbl
   have HWe := zvq (HWwd.out.call hbl)
   have hge : (wd.alloc (.cells (lcell [[97, 102, 102, 101, 99, 116, 115], q1, q2, q3]) 9)).heap[wd.heap.size]? = some (.cells (lcell [[97, 102, 102, 101, 99, 116, 115], q1, q2, q3]) 9 (0, 0)) := heap_alloc_new _ _
   have HLM : Hid (zf7 L [[97, 102, 102, 101, 99, 116, 115], q1, q2, q3]) := zvq (ztk (by decide) Hq1.out Hq2.out Hq3.out)
   have hbd : b < wd.heap.size := HTwd.out.lt
   clear HTwd HBwd HWwd Hq1 Hq2 Hq3 hbl
   go_wp2_with fail
   refine (zj3 b _ 8 _ HTe.out (by omega) (by decide) (by decide)).mono ?_
   rintro e we ⟨q, hq, rfl, ht, hg⟩
   have HT1 := zvq ht
   have HB1 := zvq (HBe.out.trans (km hg (by have := HBE.out; omega) HBe.out.size))
   have HW1 := zvq (HWe.out.other hg (.inl rfl))
   have HG1 := zvq ((hg.block wd.heap.size (Array.getElem?_eq_some_iff.1 hge).1 (fun e => by cases e; omega)).trans hge)
   have HMG := HMwd
   generalize [[97, 102, 102, 101, 99, 116, 115], q1, q2, q3] = line at *
   generalize wd.heap.size = g at *
   clear ht hg hge HTe HBe HWe HMwd
   by_cases hq4 : q < 4
   case neg =>
    have hqi : ¬ (q : Int) < 4 := by omega
    exact zv7
   have hqi : (q : Int) < 4 := by omega
   by_cases hl0 : 0 < L.length
   case neg =>
    have hli : ¬ (0 : Int) < (L.length : Int) := by omega
    exact zv7
   have hli : (0 : Int) < (L.length : Int) := by omega
   go_wp2_with fail
   refine (next_big b _ (L.length : Int) we HT1.out (by omega) (by omega) (by have := HLL.out; omega)).mono ?_
   rintro e wf ⟨i, hi, rfl, ht, hg⟩
   have HT2 := zvq ht
   have HB2 := zvq (HB1.out.trans (km hg (by have := HBE.out; omega) HB1.out.size))
   have HW2 := zvq (HW1.out.other hg (.inl rfl))
   have hg2 := (hg.block g (Array.getElem?_eq_some_iff.1 HG1.out).1 (fun e => by cases e; omega)).trans HG1.out
   have hil : i < L.length := by omega
   obtain ⟨b2, off2, hva, hb2, hc2⟩ := (kp HS.out HB2.out).at i hil
   subst hva
   obtain ⟨u0, hcu⟩ := zsl (k := q) hg2 (by rw [HLM.out.1]; exact hq4)
   have hfu := zbj (o := q) hg2
   have HMX := zvq (getD_mem hil)
   generalize L.getD i [] = word at *
   have HG3 : Hid ((wf.setCell ⟨g, q, none⟩ (.string ⟨word.toArray⟩)).heap[g]? = some (.cells (lcell (line.set q word)) 9 (0, 0))) := zvq (by rw [vw q _ hg2, zu2])
   have hgs := zbf wf g q (.string ⟨word.toArray⟩)
   have HW3 := zvq (HW2.out.other hgs (.inr HMG.out))
   have HT3 := zvq (HT2.out.grown hgs (fun e => by cases e; omega) (fun c e => by cases e; omega))
   have HB3 := zvq (HB2.out.grown hgs HB2.out.size (fun c e => by cases e; have := HBE.out; omega))
   have HLM2 := zvq (HLM.out.set q HMX.out)
   clear ht hg HT1 HB1 HW1 HT2 HB2 HW2 HG1 HMX hgs
   go_upto_region 10 with (first | (refine zpb rfl 9 _ _ rfl g q rfl (.string ⟨word.toArray⟩) rfl _ hcu hfu zvj rfl ?_) | fail)
   clear hcu hfu hc2 hg2
   generalize wf.setCell ⟨g, q, none⟩ (.string ⟨word.toArray⟩) = wg at *
   have hbq : Below wg.heap.size wg (wg.alloc (.cells #[.slice (some ⟨g, 0, none⟩) 4 4] 47)) := (zvt _ _).alloc (zvs _) _
   have HWQ := zvq (HW3.out.call hbq)
   have HTQ := zvq (HT3.out.below hbq)
   have HBQ := zvr HB3 hbq
   have HGQ := zvq ((hbq.block g (Array.getElem?_eq_some_iff.1 HG3.out).1).trans HG3.out)
   have HNQ : Hid (∀ j u, (lslE (⟨some ⟨g, 0, none⟩, 4, 4⟩ : Lsl))[j]? = some u -> (wg.alloc (.cells #[.slice (some ⟨g, 0, none⟩) 4 4] 47)).cell? ⟨wg.heap.size, j, none⟩ = some u) := zvq (fun j u hj => by rw [ze, if_pos rfl]; simpa [lslE, Lsl.v] using hj)
   have HNS : Hid (b + 1 ≤ (wg.alloc (.cells #[.slice (some ⟨g, 0, none⟩) 4 4] 47)).heap.size) := zvq (by have := HTQ.out.lt; omega)
   clear hbq HW3 HT3 HB3 HG3
   go_wp2_with (first | (refine uy zal (by decide) zbv zat (by decide) rfl _ _ 50 rfl Tryz.underlying50 (b + 1) (.slice la ls.length lc) us rfl HWQ.out.row.row wg.heap.size (⟨some ⟨g, 0, none⟩, 4, 4⟩ : Lsl) rfl HNQ.out (by have := HJ.out; omega) HNS.out ?_; intro v9 w9 hr9 hg9 ho9) | fail)
   have HW9 := zvq (HWQ.out.add HMG.out (Array.getElem?_eq_some_iff.1 HGQ.out).1 HGQ.out HLM2.out hr9 hg9 ho9)
   have HT9 := zvq (HTQ.out.grown hg9 (fun e => by have := GRow.block HWQ.out.row.row _ e; omega) (fun c e => by have := GRow.block HWQ.out.row.row _ e; omega))
   have HB9 := zvq (HBQ.out.grown hg9 HBQ.out.size (fun c e => by have := GRow.block HWQ.out.row.row _ e; have := HBE.out; omega))
   clear hr9 hg9 ho9 HWQ HTQ HBQ HGQ HNQ HNS
   go_wp2
   go_roundw
   case rel => exact ⟨j - 1, w9.heap.size, _, _, by have := HJ.out; omega, by rw [show ((j - 1 : Nat) : Int) = (j : Int) - 1 by omega], by have := HJ.out; rw [List.length_append]; simp; omega, by have := HJ.out; rw [List.length_append, List.length_append]; simp; omega, HW9.out, zvs _, HT9.out.le (by omega), HB9.out⟩
   case measure => simp [intOf]; omega
  ·obtain rfl : j = 0 := by omega
   have i1 : ¬ (0 : Int) < ((0 : Nat) : Int) := by omega
   go_wp2_with fail
   go_loopw [10] (fun iv wx => ∃ i : Nat, i ≤ L.length /\ iv = .int .i64 i /\ wx = wr /\ (∀ k, k < i -> ∀ h : k < L.length, L[k].length ≤ 300)) (fun iv _ => L.length - (intOf iv).toNat)
   case atStart => exact ⟨0, Nat.zero_le _, rfl, rfl, fun k hk => absurd hk (by omega)⟩
   case round =>
    obtain ⟨i, hi, rfl, hww, hall⟩ := hrel
    subst hww
    by_cases hil : i < L.length
    ·have hii : (i : Int) < (L.length : Int) := by omega
     obtain ⟨b2, off2, hva, hb2, hc2⟩ := (kp HS.out HB.out).at i hil
     subst hva
     have hgd : L.getD i [] = L[i] := by rw [List.getD_eq_getElem?_getD, List.getElem?_eq_getElem hil]; rfl
     have HAL := zvq hall
     have HGD := zvq hgd
     clear hall hgd
     generalize L.getD i [] = word at *
     by_cases h300 : 300 < word.length
     ·have h3i : (300 : Int) < (word.length : Int) := by omega
      go_wp2_with fail
      refine (zdm _ (HM.out.below HB.out) (HP.out.below HB.out)).mono ?_
      rintro e wz ⟨rfl, hbz⟩
      have HBZ := zvr HB hbz
      clear hbz
      go_wp2
      go_ret
      exact ⟨zc rfl, HBZ.out⟩
     ·have h3i : ¬ (300 : Int) < (word.length : Int) := by omega
      have HAL2 : Hid (∀ k, k < i + 1 -> ∀ h : k < L.length, L[k].length ≤ 300) := zvq (fun k hk h => by
        by_cases e : k = i
        · subst e; rw [← HGD.out]; omega
        · exact HAL.out k (by omega) h)
      have hib : i ≤ 140737488355327 := by have := HLL.out; omega
      go_wp2
      go_roundw
      case rel => exact ⟨i + 1, by omega, by go_num, by first | trivial | rfl, HAL2.out⟩
      case measure => simp [intOf]; omega
    ·obtain rfl : i = L.length := by omega
     have hii : ¬ (L.length : Int) < (L.length : Int) := by omega
     have hLs : ∀ x ∈ L, x.length ≤ 300 := fun x hx => by
      obtain ⟨k, hk, rfl⟩ := List.getElem_of_mem hx
      exact hall k hk hk
     have hln : ls.length ≤ 1000 := by have := HJ.out; omega
     obtain ⟨hwd, hsz⟩ := lines_sz HW.out.made hLs hln
     have HWD : Hid (∀ l ∈ ls, ∀ x ∈ l, x.length ≤ maxLen) := zvq (fun l hl x hx => by have := hwd l hl x hx; unfold maxLen; omega)
     have HSZ := zvq hsz
     have HLN := zvq HW.out.row.lines
     clear hLs hln hwd hsz hall hi
     go_wp2_with fail
     refine (zh3 _ ls _ HLN.out HWD.out HSZ.out).mono ?_
     intro e w2 he
     have HB2 := zvq (HB.out.trans (he.2.2.mono HB.out.size))
     by_cases hz : V.encE ls = 0
     case neg =>
      have hq := he.2.1 hz
      subst hq
      have hzb : (V.encE ls != 0) = true := by simp [hz]
      clear he
      generalize V.encE ls = ee at *
      go_wp2_with fail
      refine (zdm w2 (HM.out.below HB2.out) (HP.out.below HB2.out)).mono ?_
      rintro e wz ⟨rfl, hbz⟩
      have HBZ := zvr HB2 hbz
      clear hbz
      go_wp2
      go_ret
      exact ⟨zc rfl, HBZ.out⟩
     obtain ⟨u2, rfl, hbuf⟩ := he.1 hz
     have HBI := zvq hbuf.bytesInA
     have HL : Hid ((V.doc ls).length ≤ maxLen) := zvq (by have := V.doc_lenA (V.zen hz); unfold maxLen; omega)
     obtain ⟨ba, bc, hve, hjunk⟩ := HBI.out
     subst hve
     clear he hz hjunk hbuf HW HT HB HLN HWD HSZ
     generalize V.doc ls = bs at *
     have HF := zvq (V.decV_facts bs)
     go_wp2_with fail
     refine (ze3 (.slice ba bs.length bc) bs w2 (HM.out.below HB2.out) (HP.out.below HB2.out) HBI.out HL.out).mono ?_
     rintro e w5 ⟨v5, rfl, hv5, hb5⟩
     obtain ⟨⟨x, c⟩, hD⟩ : ∃ D, V.decV bs = D := ⟨_, rfl⟩
     rw [hD] at hv5 HF ⊢
     simp only at hv5 HF ⊢
     have HDD := zvq hD
     obtain ⟨pa, pc, rfl⟩ := hv5.slice
     obtain ⟨hb6, c0, c1, c2, c3⟩ := zbb x (.slice pa x.aff.length pc) w5
     have HV6 := zvq (hv5.below hb6)
     have HB6 := zvq (HB2.out.trans ((hb5.trans (hb6.mono hb5.size)).mono HB2.out.size))
     have HY6 := zvq (HBI.out.below (hb5.trans (hb6.mono hb5.size)))
     clear hD hb5 hb6 hv5 HBI HB2
     unfold advV
     go_wp2_with fail
     generalize w5.alloc (.cells #[.string ⟨x.id.toArray⟩, .int .i64 x.rev, .int .i64 x.sev, .slice pa x.aff.length pc] 25) = w6 at *
     generalize w5.heap.size = X1 at *
     refine (zjv (.slice ba bs.length bc) bs w6 (HM.out.below HB6.out) (HP.out.below HB6.out) HY6.out HL.out).mono ?_
     rintro e w7 ⟨v7, rfl, hv7, hb7⟩
     rw [HDD.out] at hv7 ⊢
     simp only at hv7 ⊢
     obtain ⟨pa7, pc7, rfl⟩ := hv7.slice
     obtain ⟨hb8, d0, d1, d2, d3⟩ := zbb x (.slice pa7 x.aff.length pc7) w7
     have hb68 := hb7.trans (hb8.mono hb7.size)
     replace c0 := zb hb68 c0
     replace c1 := zb hb68 c1
     replace c2 := zb hb68 c2
     replace c3 := zb hb68 c3
     have HV8 := zvq (HV6.out.below hb68)
     have HW8 := zvq (hv7.below hb8)
     have HB8 := zvr HB6 hb68
     clear hb7 hb8 hb68 hv7 HV6 HY6 HB6 HDD
     unfold advV
     go_wp2_with fail
     generalize w7.alloc (.cells #[.string ⟨x.id.toArray⟩, .int .i64 x.rev, .int .i64 x.sev, .slice pa7 x.aff.length pc7] 25) = w8 at *
     generalize w7.heap.size = X2 at *
     refine (zmn x (.slice pa x.aff.length pc) (.slice pa7 x.aff.length pc7) w8 HV8.out HW8.out HF.out.2).mono ?_
     rintro e wa ⟨rfl, hba⟩
     have HBA := zvr HB8 hba
     clear hba HB8 HV8 HW8 c0 c1 c2 c3 d0 d1 d2 d3
     go_wp2_with fail
     refine (zdm wa (HM.out.below HBA.out) (HP.out.below HBA.out)).mono ?_
     rintro e wb ⟨rfl, hbb⟩
     have HBB := zvr HBA hbb
     clear hbb
     go_wp2
     go_ret
     exact ⟨zc rfl, HBB.out⟩
open Go.ChangeShapes Go.WideShapes Go.ChangeAt Go.RowKit
theorem cellsI : Tryz.prog.cellsOf 3 = 1 := by kernel_rfl
theorem cellsS : Tryz.prog.cellsOf 9 = 1 := by kernel_rfl
theorem zu1 {H : Type} {enc : TypeId × Value -> H} {W : World} {base : Nat} {v : Value} {d : DataW H} {p : List MemPlace} (hv : Value.okWide Tryz.prog W .any base 22 v)
  (h : DataW.Trod enc Tryz.prog W 0 (fun _ => true) true 22 v d p) : ∃ a m cap, v = .slice a m cap /\ Nums W a m := by
 obtain ⟨a0, len, cap, rfl⟩ := okWide_slice Tryz.underlying22 hv
 refine ⟨a0, len, cap, rfl, ?_⟩
 obtain ⟨fuel0, hf⟩ := h
 rcases open_ints Tryz.underlying22 Tryz.underlying3 cellsI hf with ⟨hcs, hx⟩ | ⟨a, len', cap', zs, hcs, _, hl, hm, hz, hx, hcell, hwz⟩
 ·simp [Value.cells] at hcs
  obtain ⟨rfl, rfl, rfl⟩ := hcs
  exact ⟨by decide, fun j hj => absurd hj (by omega)⟩
 ·simp [Value.cells] at hcs
  obtain ⟨rfl, rfl, rfl⟩ := hcs
  simp only [if_true] at hz
  refine ⟨by omega, fun j hj => ?_⟩
  obtain ⟨b, off, spot⟩ := a
  have hspot : spot = none := by simpa [Addr.add] using World.cell?_spot (hcell 0 (by omega))
  subst hspot
  have hc := hcell j (by omega)
  rw [add_plain] at hc
  have hin : zs.getD j 0 ∈ zs := by rw [List.getD_eq_getElem?_getD, List.getElem?_eq_getElem (by omega)]; exact List.getElem_mem _
  exact ⟨b, off, zs.getD j 0, rfl, World.block_lt_of_cell? _ _ hc, hc, hwz _ hin⟩
theorem zxx {P : Prop} (h : P := by
 rw [hll] at hj
 obtain ⟨b, off, spot⟩ := a
 have hspot : spot = none := by simpa [Addr.add] using World.cell?_spot (hcell 0 (by omega))
 subst hspot
 have hc := hcell j (by omega)
 rw [add_plain] at hc
 refine ⟨b, off, rfl, World.block_lt_of_cell? _ _ hc, ?_⟩
 rw [hc]
 congr 2
 rw [List.getElem_map, List.getElem_take, List.getD_eq_getElem?_getD, List.getElem?_eq_getElem (by omega)]
 exact (zh2 _).symm) : P := h
theorem read_strs {H : Type} {enc : TypeId × Value -> H} {W : World} {base : Nat} {v : Value} {d : DataW H} {p : List MemPlace} (hv : Value.okWide Tryz.prog W .any base 47 v)
  (h : DataW.Trod enc Tryz.prog W 0 (fun _ => true) true 47 v d p) : ∃ L : List V.Bs, Strs W v L /\ L.length ≤ maxLen /\ ∀ x ∈ L, x.length ≤ maxLen := by
 obtain ⟨a0, len, cap, rfl⟩ := okWide_slice Tryz.underlying47 hv
 obtain ⟨fuel0, hf⟩ := h
 rcases open_strings Tryz.underlying47 Tryz.underlying9 cellsS hf with ⟨hcs, hx⟩ | ⟨a, len', cap', ss, hcs, _, hl, hm, hz, hx, hcell, hwz⟩
 ·simp [Value.cells] at hcs
  obtain ⟨rfl, rfl, rfl⟩ := hcs
  exact ⟨[], Strs.nil W, by simp, fun x hx => by simp at hx⟩
 ·simp [Value.cells] at hcs
  obtain ⟨rfl, rfl, rfl⟩ := hcs
  simp only [if_true] at hz
  have hll : ((ss.take len).map fun s : ByteArray => s.data.toList).length = len := by rw [List.length_map, List.length_take]; omega
  refine ⟨(ss.take len).map fun s : ByteArray => s.data.toList, ⟨some a, cap, by rw [hll], fun j hj => ?_⟩, by omega, fun x hx => ?_⟩
  ·exact zxx
  ·rw [List.mem_map] at hx
   obtain ⟨s, hs, rfl⟩ := hx
   rw [zf]
   exact hwz s (List.mem_of_mem_take hs)
open Go.ChangeShapes Go.WideShapes Go.ChangeAt Go.RowKit
theorem zsj {H : Type} {enc : TypeId × Value -> H} {W : World} {base : Nat} {v : Value} {d : DataW H} {p : List MemPlace} (hv : Value.okWide Tryz.prog W .any base 22 v)
  (h : DataW.Trod enc Tryz.prog W 0 (fun _ => true) true 22 v d p) : ∃ a m cap, v = .slice a m cap /\ Nums W a m /\ m ≤ cap := by
 obtain ⟨a1, m1, c1, e1, hn⟩ := zu1 hv h
 obtain ⟨a0, len, cap, rfl⟩ := okWide_slice Tryz.underlying22 hv
 cases e1
 refine ⟨_, _, _, rfl, hn, ?_⟩
 obtain ⟨fuel0, hf⟩ := h
 rcases open_ints Tryz.underlying22 Tryz.underlying3 cellsI hf with ⟨hcs, hx⟩ | ⟨a, len', cap', zs, hcs, _, hl, hm, hz, hx, hcell, hwz⟩
 ·simp [Value.cells] at hcs
  obtain ⟨rfl, rfl, rfl⟩ := hcs
  exact zvs _
 ·simp [Value.cells] at hcs
  obtain ⟨rfl, rfl, rfl⟩ := hcs
  exact hl
open Go.ChangeShapes Go.WideShapes Go.ChangeAt Go.RowKit
theorem zpn : 1 ≤ Tryz.prog.bytesOf 9 := of_decide_eq_true (by kernel_rfl)
theorem zs1 {H : Type} {enc : TypeId × Value -> H} {W : World} {base : Nat} {v : Value} {d : DataW H} {p : List MemPlace} (hv : Value.okWide Tryz.prog W .any base 47 v)
  (h : DataW.Trod enc Tryz.prog W 0 (fun _ => true) true 47 v d p) : ∃ L : List V.Bs, Strs W v L /\
   (∀ {ts : List TypeId} {ds : List (DataW H)} {j : Nat}, (DataW.weightsEach Tryz.prog ts ds).all (· ≤ reachBytes) = true -> ts[j]? = some 47 -> ds[j]? = some d -> L.length ≤ 140737488355327) /\ ∀ x ∈ L, x.length ≤ maxLen := by
 obtain ⟨a0, len, cap, rfl⟩ := okWide_slice Tryz.underlying47 hv
 obtain ⟨fuel0, hf⟩ := h
 rcases open_strings Tryz.underlying47 Tryz.underlying9 cellsS hf with ⟨hcs, hx⟩ | ⟨a, len', cap', ss, hcs, _, hl, hm, hz, hx, hcell, hwz⟩
 ·simp [Value.cells] at hcs
  obtain ⟨rfl, rfl, rfl⟩ := hcs
  exact ⟨[], Strs.nil W, fun _ _ _ => by simp, fun x hx => by simp at hx⟩
 ·simp [Value.cells] at hcs
  obtain ⟨rfl, rfl, rfl⟩ := hcs
  simp only [if_true] at hz
  have hll : ((ss.take len).map fun s : ByteArray => s.data.toList).length = len := by rw [List.length_map, List.length_take]; omega
  refine ⟨(ss.take len).map fun s : ByteArray => s.data.toList, ⟨some a, cap, by rw [hll], fun j hj => ?_⟩, fun {ts ds j} hw ht hd => ?_, fun x hx => ?_⟩
  ·exact zxx
  ·obtain ⟨rfl, _⟩ := Prod.mk.inj hx
   have h1 := sized_slice hw ht hd Tryz.underlying47
   have h2 := reachBytes_lt
   have h3 := zpn
   rw [hll]
   simp only [strs, List.length_map, List.length_take, List.length_drop] at h1
   have h4 : len ≤ (min len ss.length + (ss.length - len)) := by omega
   have h5 : len * 1 ≤ (min len ss.length + (ss.length - len)) * Tryz.prog.bytesOf 9 := Nat.mul_le_mul h4 h3
   omega
  ·rw [List.mem_map] at hx
   obtain ⟨s, hs, rfl⟩ := hx
   rw [zf]
   exact hwz s (List.mem_of_mem_take hs)
end Go.Proofs.YtiloljoancdcbaaGreatDoor
namespace Go.Proofs.YtiloljoancdcbaaGreatDoor.laying
open Go.RowKit
theorem own : ownKnob Tryz.prog.godebug = none := by kernel_rfl
theorem laidOut : laidOutB Tryz.prog = true := by kernel_rfl
mutual
def flat : DataW Unit -> List Value
 | .lit (.int k n) => [.int k n]
 | .agg ps => zt4 ps
 | _ => []
def zt4 : List (DataW Unit) -> List Value
 | [] => []
 | d :: r => flat d ++ zt4 r
end
def zbn (l : List Value) : Obj -> Obj
 | .cells _ t frozen => .cells l.toArray t frozen
 | o => o
noncomputable def laidWorld (os : Os) : World :=
 { World.holding Tryz.prog os ⟨#[], #[], []⟩ with
   heap := ((World.holding Tryz.prog os ⟨#[], #[], []⟩).heap.modify 3 (zbn (flat Rows.laid_unicode_utf8_acceptRanges))).modify 2 (zbn (flat Rows.laid_unicode_utf8_first)) }
end Go.Proofs.YtiloljoancdcbaaGreatDoor.laying
namespace Go.Proofs.YtiloljoancdcbaaGreatDoor.laying
open Go.RowKit
noncomputable def laidWorldP (os : Os) : World :=
 { World.holding Tryz.prog os ⟨#[], #[], []⟩ with
   heap := (((((World.holding Tryz.prog os ⟨#[], #[], []⟩).heap.modify 3 (zbn (flat Rows.laid_unicode_utf8_acceptRanges))).modify 2 (zbn (flat Rows.laid_unicode_utf8_first))).modify 1 (zbn (flat Rows.laid_internal_strconv_uint64pow10))).modify 4 (zbn (flat Rows.laid_math_bits_deBruijn32tab))).modify 5 (zbn (flat Rows.laid_math_bits_deBruijn64tab)) }
end Go.Proofs.YtiloljoancdcbaaGreatDoor.laying
namespace Go.Proofs.YtiloljoancdcbaaGreatDoor
open Go.RowKit
theorem zuq : laidOutB Tryz.prog = true := by kernel_rfl
theorem zva : mapsRowed Tryz.prog = true := by kernel_rfl
end Go.Proofs.YtiloljoancdcbaaGreatDoor
