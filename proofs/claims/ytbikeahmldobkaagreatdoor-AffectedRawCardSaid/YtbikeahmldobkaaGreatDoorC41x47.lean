/-
  Lemmas for the law.
-/
import Derived.Test.YtbikeahmldobkaaGreatDoorC41x37
import Derived.Test.YtbikeahmldobkaaGreatDoorC41x46
import Derived.Test.YtbikeahmldobkaaGreatDoorC41x30
import Derived.Test.YtbikeahmldobkaaGreatDoorC41x24
import Derived.Test.YtbikeahmldobkaaGreatDoorC41x26
import Derived.Test.YtbikeahmldobkaaGreatDoorC41x16
import Derived.Test.YtbikeahmldobkaaGreatDoorC41x10
import Derived.Test.YtbikeahmldobkaaGreatDoorC41x23
import Derived.Test.YtbikeahmldobkaaGreatDoorC41x21
import Derived.Test.YtbikeahmldobkaaGreatDoorC41x25
import Derived.Test.YtbikeahmldobkaaGreatDoorC41x28
import Derived.Deep.RegionHeld3
import Derived.StillTailTactics
import Derived.Outline
set_option linter.all false
set_option maxRecDepth 100000
set_option maxHeartbeats 3200000
namespace Go.Proofs.YtbikeahmldobkaaGreatDoor
open Go.RowKit
structure CFix (n : Int) (s ver : V.Bs) (A B C : Nat) (w : World) : Prop where
 m : zm w
 len : ver.length ≤ maxLen
 a : w.heap[A]? = some (.cells #[.int .i64 n] 3 (0, 0))
 b : w.heap[B]? = some (.cells #[.string ⟨s.toArray⟩] 9 (0, 0))
 c : w.heap[C]? = some (.cells #[.string ⟨ver.toArray⟩] 9 (0, 0))
theorem CFix.below {n : Int} {s ver : V.Bs} {A B C : Nat} {w w' : World} (h : CFix n s ver A B C w) (hb : Below w.heap.size w w') : CFix n s ver A B C w' :=
 ⟨h.m.below hb, h.len, (hb.block _ (Array.getElem?_eq_some_iff.1 h.a).1).trans h.a, (hb.block _ (Array.getElem?_eq_some_iff.1 h.b).1).trans h.b, (hb.block _ (Array.getElem?_eq_some_iff.1 h.c).1).trans h.c⟩
theorem covF_any (x : NV) (n : Int) (s ver : V.Bs) (A B C : Nat) (w : World) (hf : CFix n s ver A B C w) (hx : NOk w x) :
  Calls Tryz.prog 47 #[.agg (ncells x), .pointer (some ⟨A, 0, none⟩), .pointer (some ⟨B, 0, none⟩), .pointer (some ⟨C, 0, none⟩)] w fun e w' => e = .returned (.bool (V.covP x.n.adv n s ver)) /\ Below w.heap.size w w' := by
 obtain ⟨W0, hW0⟩ : ∃ W0, W0 = w.alloc (.cells (ncells x) 57) := ⟨_, rfl⟩
 have hb0 : Below w.heap.size w W0 := by rw [hW0]; exact (zpd w.heap.size w).alloc (zpc _) _
 obtain ⟨n0, n1, n2, n3, _, _⟩ := je hx.doc (kt (show W0.heap[w.heap.size]? = some (.cells (ncells x) 57 (0, 0)) from by rw [hW0]; exact heap_alloc_new w _))
 simp only [Nat.zero_add] at n0 n1 n2 n3
 have HB0 := zpa hb0
 have HF := zpa (hf.below hb0)
 have HX := zpa (hx.below hb0)
 have a0 : W0.cell? ⟨A, 0, none⟩ = some (.int .i64 n) := by rw [cell_of_row _ _ _ _ _ _ HF.out.a]; rfl
 have b0 : W0.cell? ⟨B, 0, none⟩ = some (.string ⟨s.toArray⟩) := by rw [cell_of_row _ _ _ _ _ _ HF.out.b]; rfl
 have c0 : W0.cell? ⟨C, 0, none⟩ = some (.string ⟨ver.toArray⟩) := by rw [cell_of_row _ _ _ _ _ _ HF.out.c]; rfl
 subst hW0
 clear hf hx hb0
 generalize ncells x = nc at *
 go_enter Tryz.func47, Tryz.ntmps47
 go_wp2_with fail
 refine (zbg x.n.adv x.u n s ver _ HF.out.m HX.out.affs HX.out.id HX.out.len HF.out.len).mono ?_
 rintro e w1 ⟨rfl, hb1⟩
 have HB1 := zpb HB0 hb1
 clear hb1 n0 n1 n2 n3 a0 b0 c0
 go_wp2
 go_ret
 exact ⟨rfl, HB1.out⟩
theorem nidx_any (n : Int) (s ver : V.Bs) (A B C : Nat) (v : Value) (xs : List NV) (w : World) (hf : CFix n s ver A B C w) (hr : Notes w v xs) (hl : xs.length ≤ 1000000) :
  Calls Tryz.prog 82 #[v, .func (.func 47) #[] #[.pointer (some ⟨A, 0, none⟩), .pointer (some ⟨B, 0, none⟩), .pointer (some ⟨C, 0, none⟩)]] w fun e w' => ∃ i : Int, e = .returned (.int .i64 i) /\ Below w.heap.size w w' /\ decide (0 ≤ i) = (xs.any fun x => V.covP x.n.adv n s ver) := by
 have HF := zpa hf
 have HV := zpa hr
 obtain ⟨va, vc, rfl⟩ := hr.slice
 clear hf hr
 go_enter Tryz.func82, Tryz.ntmps82
 go_wp2
 go_loopw [8] (fun jv wx => ∃ j : Nat, j ≤ xs.length /\ jv = .int .i64 j /\ (∀ i (h : i < xs.length), i < j -> V.covP xs[i].n.adv n s ver = false) /\ Below w.heap.size w wx) (fun jv _ => xs.length - (intOf jv).toNat)
 case atStart => exact ⟨0, Nat.zero_le _, rfl, fun j h hj => absurd hj (by omega), zpd _ _⟩
 case round =>
  obtain ⟨k, hk, rfl, hno, hb⟩ := hrel
  have HB := zpa hb
  have HNO := zpa hno
  clear hb hno
  by_cases hlt : k < xs.length
  ·obtain ⟨hok, g, off, hpa, hg, hr⟩ := (HV.out.below HB.out).at k hlt
   subst hpa
   have HOK := zpa hok
   have i1 : (0 : Int) ≤ (k : Int) := by omega
   have i2 : (k : Int) < (xs.length : Int) := by omega
   obtain ⟨x, hx⟩ : ∃ x, x = xs[k] := ⟨_, rfl⟩
   rw [← hx] at HOK hr
   have HR := zpa hr
   have HX := zpa hx
   clear hx hok hr
   go_wp2_with (first | (refine zkr rfl _ rfl g (off + k * 37) rfl x HOK.out.doc HR.out ?_) | fail)
   refine (covF_any x n s ver A B C wr (HF.out.below HB.out) HOK.out).mono ?_
   rintro e w2 ⟨rfl, hb2⟩
   have HB2 := zpb HB hb2
   clear hb2
   generalize ncells x = nc at *
   rcases hc : V.covP x.n.adv n s ver with _ | _
   ·have HNO2 : Hid (∀ j (h : j < xs.length), j < k + 1 -> V.covP xs[j].n.adv n s ver = false) := zpa (fun j h hj => by
      by_cases e : j = k
      · subst e; rw [← HX.out]; exact hc
      · exact HNO.out j h (by omega))
    clear hc
    go_wp2
    go_roundw
    case rel => exact ⟨k + 1, by omega, by go_num, HNO2.out, HB2.out⟩
    case measure => simp [intOf]; omega
   ·have HR : Hid ((xs.any fun x => V.covP x.n.adv n s ver) = true) := zpa (List.any_eq_true.2 ⟨x, by rw [HX.out]; exact List.getElem_mem _, hc⟩)
    clear hc
    go_wp2
    go_ret
    exact ⟨k, rfl, HB2.out, by rw [HR.out, decide_eq_true (by omega)]⟩
  ·obtain rfl : k = xs.length := by omega
   have i2 : ¬ (xs.length : Int) < (xs.length : Int) := by omega
   have HR : Hid ((xs.any fun x => V.covP x.n.adv n s ver) = false) := zpa (any_no (fun j hj => HNO.out j hj hj))
   go_wp2
   go_ret
   exact ⟨-1, rfl, HB.out, by rw [HR.out]; rfl⟩
theorem zha (n : Int) (s ver : V.Bs) (A B C : Nat) (v : Value) (xs : List NV) (w : World) (hf : CFix n s ver A B C w) (hr : Notes w v xs) (hl : xs.length ≤ 1000000) :
  Calls Tryz.prog 49 #[v, .func (.func 47) #[] #[.pointer (some ⟨A, 0, none⟩), .pointer (some ⟨B, 0, none⟩), .pointer (some ⟨C, 0, none⟩)]] w fun e w' => e = .returned (.bool (xs.any fun x => V.covP x.n.adv n s ver)) /\ Below w.heap.size w w' := by
 have HF := zpa hf
 have HV := zpa hr
 clear hf hr
 go_enter Tryz.func49, Tryz.ntmps49
 go_wp2_with fail
 refine (nidx_any n s ver A B C v xs w HF.out HV.out hl).mono ?_
 rintro e w1 ⟨i, rfl, hb, hi⟩
 have HI := zpa hi
 have HB := zpa hb
 clear hi hb
 go_wp2
 go_ret
 exact ⟨by rw [← HI.out]; rfl, HB.out⟩
namespace V
def abv (n : Int) (a b : Bs) : Bool := decide ((zv n a b).2 = 0) && decide (0 < (zv n a b).1)
def zbw (n : Int) (s cur : Bs) (ys : List Note) (st : Bs × Bool) (v : Bs) : Bs × Bool :=
 if (!abv n v cur || (st.2 && !abv n st.1 v)) = true then st else if (ys.any fun x => covP x.adv n s v) = true then st else (v, true)
def upTo (n : Int) (s cur : Bs) (ys : List Note) (vs : List Bs) (k : Nat) : Bs × Bool := (vs.take k).foldl (zbw n s cur ys) ([], false)
theorem zhe {n : Int} {s cur : Bs} {ys : List Note} {vs : List Bs} {k : Nat} (h : k < vs.length) : upTo n s cur ys vs (k + 1) = zbw n s cur ys (upTo n s cur ys vs k) vs[k] := by
 unfold upTo
 rw [List.take_succ_eq_append_getElem h, List.foldl_append]
 rfl
theorem zk3 {n : Int} {s cur : Bs} {ys : List Note} {vs : List Bs} {m : Nat} (h : ∀ v ∈ vs, v.length ≤ m) : ∀ {k : Nat}, (upTo n s cur ys vs k).1.length ≤ m
 | 0 => by simp [upTo]
 | k + 1 => by
  have ih := zk3 (n := n) (s := s) (cur := cur) (ys := ys) h (k := k)
  by_cases hk : k < vs.length
  ·rw [zhe hk]
   unfold zbw
   split
   ·exact ih
   ·split
    ·exact ih
    ·exact h _ (List.getElem_mem hk)
  ·unfold upTo at *
   rw [List.take_of_length_le (by omega)] at *
   exact ih
end V
theorem zqt {P : Prop} (h : P := by
 have HE9 : Hid (V.upTo n s cur ys vs (k + 1) = (y, true)) := zpa (by rw [HE.out, hcv]; rfl)
 clear hcv
 go_wp2
 go_roundw
 case rel => exact ⟨k + 1, y, true, by omega, by go_num, rfl, rfl, HE9.out, HB9.out⟩
 case measure => simp [intOf]; omega) : P := h
theorem zke (v : Value) (xs : List NV) (n : Int) (s cur : V.Bs) (sv : Value) (vs : List V.Bs) (w : World) (hm : zm w) (hv : Notes w v xs) (hl : xs.length ≤ 1000000) (hc : cur.length ≤ maxLen) (hs : Strs w sv vs) (hsl : vs.length ≤ 1000000) (hvl : ∀ x ∈ vs, x.length ≤ maxLen) :
  Calls Tryz.prog 27 #[v, .int .i64 n, .string ⟨s.toArray⟩, .string ⟨cur.toArray⟩, sv] w fun e w' => e = .returned (.tuple #[.string ⟨(V.upTo n s cur (xs.map (·.n)) vs vs.length).1.toArray⟩, .bool (V.upTo n s cur (xs.map (·.n)) vs vs.length).2]) /\ Below w.heap.size w w' := by
 have hb0 : Below w.heap.size w ((w.alloc (.cells #[.int .i64 n] 3)).alloc (.cells #[.string ⟨s.toArray⟩] 9)) := ((zpd _ w).alloc (zpc _) _).alloc (by simp) _
 obtain ⟨W0, hW0⟩ : ∃ W0, W0 = (w.alloc (.cells #[.int .i64 n] 3)).alloc (.cells #[.string ⟨s.toArray⟩] 9) := ⟨_, rfl⟩
 rw [← hW0] at hb0
 have HB0 := zpa hb0
 have HM := zpa (hm.below hb0)
 have HV := zpa (hv.below hb0)
 have HS := zpa (hs.below hb0)
 have HC := zpa hc
 have HVL := zpa hvl
 have HA : Hid (W0.heap[w.heap.size]? = some (.cells #[.int .i64 n] 3 (0, 0))) := zpa (by rw [hW0, heap_alloc, if_neg (by simp), heap_alloc, if_pos rfl])
 have HBB : Hid (W0.heap[w.heap.size + 1]? = some (.cells #[.string ⟨s.toArray⟩] 9 (0, 0))) := zpa (by rw [hW0, heap_alloc, if_pos (by simp)])
 have HW := zpa hW0
 obtain ⟨sa, sc, rfl⟩ := hs.slice
 clear hm hv hs hc hvl hb0 hW0
 go_enter Tryz.func27, Tryz.ntmps27
 go_wp2_with fail
 rw [← HW.out]
 have hv9 : ∀ x ∈ vs, x.length ≤ maxLen := HVL.out
 generalize hys : xs.map (·.n) = ys
 have HYS : Hid (∀ y, (ys.any fun x => V.covP x.adv n s y) = (xs.any fun x => V.covP x.n.adv n s y)) := zpa (fun y => by rw [← hys, List.any_map]; rfl)
 have HYSE := zpa hys
 clear hys hv9
 go_loopw [12, 13, 19] (fun bv fv iv wx => ∃ (k : Nat) (b : V.Bs) (f : Bool), k ≤ vs.length /\ iv = .int .i64 k /\ bv = .string ⟨b.toArray⟩ /\ fv = .bool f /\ V.upTo n s cur ys vs k = (b, f) /\ Below W0.heap.size W0 wx) (fun _ _ iv _ => vs.length - (intOf iv).toNat)
 case atStart => exact ⟨0, [], false, Nat.zero_le _, rfl, rfl, rfl, rfl, zpd _ _⟩
 case round =>
  obtain ⟨k, b, f, hk, rfl, rfl, rfl, hup, hbx⟩ := hrel
  have HUP := zpa hup
  have HBX := zpa hbx
  by_cases hlt : k < vs.length
  ·obtain ⟨g, off, hsa, hg, hc⟩ := HS.out.atS k hlt
   subst hsa
   have hcr := (hbx.cell (p := ⟨g, off + k, none⟩) hg).trans hc
   obtain ⟨y, hy⟩ : ∃ y, y = vs[k] := ⟨_, rfl⟩
   have HYL : Hid (y.length ≤ maxLen) := zpa (by rw [hy]; exact HVL.out _ (List.getElem_mem hlt))
   have HBL : Hid (b.length ≤ maxLen) := zpa (by have := V.zk3 (n := n) (s := s) (cur := cur) (ys := ys) HVL.out (k := k); rw [hup] at this; exact this)
   have HST : Hid (V.upTo n s cur ys vs (k + 1) = V.zbw n s cur ys (b, f) y) := zpa (by rw [V.zhe hlt, hup, hy])
   rw [← hy] at hcr
   have hb2 : Below wr.heap.size wr (wr.alloc (.cells #[.string ⟨y.toArray⟩] 9)) := (zpd _ wr).alloc (zpc _) _
   have HB2 := zpa (hbx.trans (hb2.mono hbx.size))
   have HF2 : Hid (CFix n s y w.heap.size (w.heap.size + 1) wr.heap.size (wr.alloc (.cells #[.string ⟨y.toArray⟩] 9))) := zpa ⟨HM.out.below HB2.out, HYL.out, (HB2.out.block _ (Array.getElem?_eq_some_iff.1 HA.out).1).trans HA.out, (HB2.out.block _ (Array.getElem?_eq_some_iff.1 HBB.out).1).trans HBB.out, heap_alloc_new wr _⟩
   have a0 : (wr.alloc (.cells #[.string ⟨y.toArray⟩] 9)).cell? ⟨w.heap.size, 0, none⟩ = some (.int .i64 n) := by rw [cell_of_row _ _ _ _ _ _ HF2.out.a]; rfl
   have i1 : (0 : Int) ≤ (k : Int) := by omega
   have i2 : (k : Int) < (vs.length : Int) := by omega
   have hkb : k < 1000000 := by omega
   clear hy hc hb2 hup hbx
   go_wp2_with fail
   clear hcr
   generalize wr.alloc (.cells #[.string ⟨y.toArray⟩] 9) = w2 at *
   generalize wr.heap.size = C at *
   refine (zh2 n y cur w2 HF2.out.m HYL.out HC.out).mono ?_
   rintro e w3 ⟨rfl, hb3⟩
   have HF3 := zpa (HF2.out.below hb3)
   have HB3 := zpb HB2 hb3
   have a0 : w3.cell? ⟨w.heap.size, 0, none⟩ = some (.int .i64 n) := by rw [cell_of_row _ _ _ _ _ _ HF3.out.a]; rfl
   have c0 : w3.cell? ⟨C, 0, none⟩ = some (.string ⟨y.toArray⟩) := by rw [cell_of_row _ _ _ _ _ _ HF3.out.c]; rfl
   clear hb3
   rw [show (decide ((V.zv n y cur).2 = 0) && decide (0 < (V.zv n y cur).1)) = V.abv n y cur from rfl]
   rcases hab : V.abv n y cur with _ | _
   ·have HE : Hid (V.upTo n s cur ys vs (k + 1) = (b, f)) := zpa (by rw [HST.out]; unfold V.zbw; rw [hab, if_pos (by simp)])
    clear hab
    go_wp2
    go_roundw
    case rel => exact ⟨k + 1, b, f, by omega, by go_num, rfl, rfl, HE.out, HB3.out⟩
    case measure => simp [intOf]; omega
   ·rcases f with _ | _
    ·have HE : Hid (V.upTo n s cur ys vs (k + 1) = if (ys.any fun x => V.covP x.adv n s y) = true then (b, false) else (y, true)) := zpa (by rw [HST.out]; unfold V.zbw; rw [hab, if_neg (by simp)])
     clear hab
     go_wp2_with fail
     refine (zha n s y w.heap.size (w.heap.size + 1) C v xs w3 HF3.out (HV.out.below HB3.out) hl).mono ?_
     rintro e w9 ⟨rfl, hb9⟩
     rw [← HYS.out]
     have HF9 := zpa (HF3.out.below hb9)
     have HB9 := zpb HB3 hb9
     have c0 : w9.cell? ⟨C, 0, none⟩ = some (.string ⟨y.toArray⟩) := by rw [cell_of_row _ _ _ _ _ _ HF9.out.c]; rfl
     clear hb9
     rcases hcv : (ys.any fun x => V.covP x.adv n s y) with _ | _
     ·exact zqt
     ·have HE9 : Hid (V.upTo n s cur ys vs (k + 1) = (b, false)) := zpa (by rw [HE.out, hcv]; rfl)
      clear hcv
      go_wp2
      go_roundw
      case rel => exact ⟨k + 1, b, false, by omega, by go_num, rfl, rfl, HE9.out, HB9.out⟩
      case measure => simp [intOf]; omega
    ·have HST2 : Hid (V.upTo n s cur ys vs (k + 1) = if (!V.abv n b y) = true then (b, true) else if (ys.any fun x => V.covP x.adv n s y) = true then (b, true) else (y, true)) := zpa (by rw [HST.out]; unfold V.zbw; rw [hab]; rfl)
     clear hab
     go_wp2_with fail
     refine (zh2 n b y w3 HF3.out.m HBL.out HYL.out).mono ?_
     rintro e w4 ⟨rfl, hb4⟩
     have HF4 := zpa (HF3.out.below hb4)
     have HB4 := zpb HB3 hb4
     rw [show (decide ((V.zv n b y).2 = 0) && decide (0 < (V.zv n b y).1)) = V.abv n b y from rfl]
     clear hb4 a0 c0
     rcases hab : V.abv n b y with _ | _
     ·have HE : Hid (V.upTo n s cur ys vs (k + 1) = (b, true)) := zpa (by rw [HST2.out, hab]; rfl)
      clear hab
      go_wp2
      go_roundw
      case rel => exact ⟨k + 1, b, true, by omega, by go_num, rfl, rfl, HE.out, HB4.out⟩
      case measure => simp [intOf]; omega
     ·have HE : Hid (V.upTo n s cur ys vs (k + 1) = if (ys.any fun x => V.covP x.adv n s y) = true then (b, true) else (y, true)) := zpa (by rw [HST2.out, hab]; rfl)
      clear hab
      go_wp2_with fail
      refine (zha n s y w.heap.size (w.heap.size + 1) C v xs w4 HF4.out (HV.out.below HB4.out) hl).mono ?_
      rintro e w9 ⟨rfl, hb9⟩
      rw [← HYS.out]
      have HF9 := zpa (HF4.out.below hb9)
      have HB9 := zpb HB4 hb9
      have c0 : w9.cell? ⟨C, 0, none⟩ = some (.string ⟨y.toArray⟩) := by rw [cell_of_row _ _ _ _ _ _ HF9.out.c]; rfl
      clear hb9
      rcases hcv : (ys.any fun x => V.covP x.adv n s y) with _ | _
      ·exact zqt
      ·have HE9 : Hid (V.upTo n s cur ys vs (k + 1) = (b, true)) := zpa (by rw [HE.out, hcv]; rfl)
       clear hcv
       go_wp2
       go_roundw
       case rel => exact ⟨k + 1, b, true, by omega, by go_num, rfl, rfl, HE9.out, HB9.out⟩
       case measure => simp [intOf]; omega
  ·obtain rfl : k = vs.length := by omega
   have HE : Hid (V.upTo n s cur ys vs vs.length = (b, f)) := HUP
   clear hup hbx
   go_wp2
   go_ret2
   exact ⟨by rw [HYSE.out, HE.out]; rfl, HB0.out.trans (HBX.out.mono HB0.out.size)⟩
open Go.RowKit
namespace V
end V
open Go.RowKit
namespace V
end V
open Go.RowKit
namespace V
end V
open Go.RowKit
open Go.RowKit
namespace V
end V
open Go.RowKit
open Go.RowKit
open Go.RowKit
open Go.RowKit
namespace V
end V
open Go.RowKit
theorem cells4 {w : World} {g : Nat} {t : TypeId} {c0 c1 c2 c3 : Value} (hg : w.heap[g]? = some (.cells #[c0, c1, c2, c3] t (0, 0))) : w.cell? ⟨g, 0, none⟩ = some c0 /\ w.cell? ⟨g, 1, none⟩ = some c1 /\ w.cell? ⟨g, 2, none⟩ = some c2 /\ w.cell? ⟨g, 3, none⟩ = some c3 := by
 refine ⟨?_, ?_, ?_, ?_⟩ <;> (rw [cell_of_row w g _ _ _ _ hg]; rfl)
namespace VInv
end VInv
end Go.Proofs.YtbikeahmldobkaaGreatDoor
