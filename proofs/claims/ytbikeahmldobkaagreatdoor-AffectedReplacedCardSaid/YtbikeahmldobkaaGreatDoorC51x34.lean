/-
  Lemmas for the law.
-/
import Derived.Test.YtbikeahmldobkaaGreatDoorC51x28
import Derived.Test.YtbikeahmldobkaaGreatDoorC51x33
import Derived.Test.YtbikeahmldobkaaGreatDoorC51x25
import Derived.Test.YtbikeahmldobkaaGreatDoorC51x21
import Derived.Test.YtbikeahmldobkaaGreatDoorC51x22
import Derived.Test.YtbikeahmldobkaaGreatDoorC51x11
import Derived.Test.YtbikeahmldobkaaGreatDoorC51x18
import Derived.Test.YtbikeahmldobkaaGreatDoorC51x23
import Derived.Test.YtbikeahmldobkaaGreatDoorC51x20
import Derived.Deep.RegionHeld3
import Derived.StillTailTactics
import Derived.Outline
set_option linter.all false
set_option maxRecDepth 100000
set_option maxHeartbeats 3200000
namespace Go.Proofs.YtbikeahmldobkaaGreatDoor
open Go.RowKit
structure CFix (n : Int) (s ver : V.Bs) (A B C : Nat) (w : World) : Prop where
 m : zj w
 len : ver.length ≤ maxLen
 a : w.heap[A]? = some (.cells #[.int .i64 n] 3 (0, 0))
 b : w.heap[B]? = some (.cells #[.string ⟨s.toArray⟩] 9 (0, 0))
 c : w.heap[C]? = some (.cells #[.string ⟨ver.toArray⟩] 9 (0, 0))
theorem CFix.below {n : Int} {s ver : V.Bs} {A B C : Nat} {w w' : World} (h : CFix n s ver A B C w) (hb : Below w.heap.size w w') : CFix n s ver A B C w' :=
 ⟨h.m.below hb, h.len, (hb.block _ (Array.getElem?_eq_some_iff.1 h.a).1).trans h.a, (hb.block _ (Array.getElem?_eq_some_iff.1 h.b).1).trans h.b, (hb.block _ (Array.getElem?_eq_some_iff.1 h.c).1).trans h.c⟩
theorem covF_any (x : NV) (n : Int) (s ver : V.Bs) (A B C : Nat) (w : World) (hf : CFix n s ver A B C w) (hx : NOk w x) :
  Calls Tryz.prog 47 #[.agg (ncells x), .pointer (some ⟨A, 0, none⟩), .pointer (some ⟨B, 0, none⟩), .pointer (some ⟨C, 0, none⟩)] w fun e w' => e = .returned (.bool (V.covP x.n.adv n s ver)) /\ Below w.heap.size w w' := by
 obtain ⟨W0, hW0⟩ : ∃ W0, W0 = w.alloc (.cells (ncells x) 57) := ⟨_, rfl⟩
 have g0 : Below w.heap.size w W0 := by rw [hW0]; exact (zvb w.heap.size w).alloc (zva _) _
 obtain ⟨n0, n1, n2, n3, _, _⟩ := um hx.doc (yp (show W0.heap[w.heap.size]? = some (.cells (ncells x) 57 (0, 0)) from by rw [hW0]; exact heap_alloc_new w _))
 simp only [Nat.zero_add] at n0 n1 n2 n3
 have HB0 := zu8 g0
 have HF := zu8 (hf.below g0)
 have HX := zu8 (hx.below g0)
 have a0 : W0.cell? ⟨A, 0, none⟩ = some (.int .i64 n) := by rw [cell_of_row _ _ _ _ _ _ HF.out.a]; rfl
 have b0 : W0.cell? ⟨B, 0, none⟩ = some (.string ⟨s.toArray⟩) := by rw [cell_of_row _ _ _ _ _ _ HF.out.b]; rfl
 have c0 : W0.cell? ⟨C, 0, none⟩ = some (.string ⟨ver.toArray⟩) := by rw [cell_of_row _ _ _ _ _ _ HF.out.c]; rfl
 subst hW0
 clear hf hx g0
 generalize ncells x = nc at *
 go_enter Tryz.func47, Tryz.ntmps47
 go_wp2_with fail
 refine (zd9 x.n.adv x.u n s ver _ HF.out.m HX.out.affs HX.out.id HX.out.len HF.out.len).mono ?_
 rintro e w1 ⟨rfl, hb1⟩
 have HB1 := zu9 HB0 hb1
 clear hb1 n0 n1 n2 n3 a0 b0 c0
 go_wp2
 go_ret
 exact ⟨rfl, HB1.out⟩
theorem nidx_any (n : Int) (s ver : V.Bs) (A B C : Nat) (v : Value) (xs : List NV) (w : World) (hf : CFix n s ver A B C w) (hr : Notes w v xs) (hl : xs.length ≤ 1000000) :
  Calls Tryz.prog 82 #[v, .func (.func 47) #[] #[.pointer (some ⟨A, 0, none⟩), .pointer (some ⟨B, 0, none⟩), .pointer (some ⟨C, 0, none⟩)]] w fun e w' => ∃ i : Int, e = .returned (.int .i64 i) /\ Below w.heap.size w w' /\ decide (0 ≤ i) = (xs.any fun x => V.covP x.n.adv n s ver) := by
 have HF := zu8 hf
 have HV := zu8 hr
 obtain ⟨va, vc, rfl⟩ := hr.slice
 clear hf hr
 go_enter Tryz.func82, Tryz.ntmps82
 go_wp2
 go_loopw [8] (fun jv wx => ∃ j : Nat, j ≤ xs.length /\ jv = .int .i64 j /\ (∀ i (h : i < xs.length), i < j -> V.covP xs[i].n.adv n s ver = false) /\ Below w.heap.size w wx) (fun jv _ => xs.length - (intOf jv).toNat)
 case atStart => exact ⟨0, Nat.zero_le _, rfl, fun j h hj => absurd hj (by omega), zvb _ _⟩
 case round =>
  obtain ⟨k, hk, rfl, g0, hb⟩ := hrel
  have HB := zu8 hb
  have HNO := zu8 g0
  clear hb g0
  by_cases hlt : k < xs.length
  ·obtain ⟨hok, g, off, hpa, hg, hr⟩ := (HV.out.below HB.out).at k hlt
   subst hpa
   have HOK := zu8 hok
   have i1 : (0 : Int) ≤ (k : Int) := by omega
   have i2 : (k : Int) < (xs.length : Int) := by omega
   obtain ⟨x, hx⟩ : ∃ x, x = xs[k] := ⟨_, rfl⟩
   rw [← hx] at HOK hr
   have HR := zu8 hr
   have HX := zu8 hx
   clear hx hok hr
   go_wp2_with (first | (refine zpd rfl _ rfl g (off + k * 37) rfl x HOK.out.doc HR.out ?_) | fail)
   refine (covF_any x n s ver A B C wr (HF.out.below HB.out) HOK.out).mono ?_
   rintro e w2 ⟨rfl, hb2⟩
   have HB2 := zu9 HB hb2
   clear hb2
   generalize ncells x = nc at *
   rcases hc : V.covP x.n.adv n s ver with _ | _
   ·have g1 : Hid (∀ j (h : j < xs.length), j < k + 1 -> V.covP xs[j].n.adv n s ver = false) := zu8 (fun j h hj => by
      by_cases e : j = k
      · subst e; rw [← HX.out]; exact hc
      · exact HNO.out j h (by omega))
    clear hc
    go_wp2
    go_roundw
    case rel => exact ⟨k + 1, by omega, by go_num, g1.out, HB2.out⟩
    case measure => simp [intOf]; omega
   ·have HR : Hid ((xs.any fun x => V.covP x.n.adv n s ver) = true) := zu8 (List.any_eq_true.2 ⟨x, by rw [HX.out]; exact List.getElem_mem _, hc⟩)
    clear hc
    go_wp2
    go_ret
    exact ⟨k, rfl, HB2.out, by rw [HR.out, decide_eq_true (by omega)]⟩
  ·obtain rfl : k = xs.length := by omega
   have i2 : ¬ (xs.length : Int) < (xs.length : Int) := by omega
   have HR : Hid ((xs.any fun x => V.covP x.n.adv n s ver) = false) := zu8 (any_no (fun j hj => HNO.out j hj hj))
   go_wp2
   go_ret
   exact ⟨-1, rfl, HB.out, by rw [HR.out]; rfl⟩
theorem zlb (n : Int) (s ver : V.Bs) (A B C : Nat) (v : Value) (xs : List NV) (w : World) (hf : CFix n s ver A B C w) (hr : Notes w v xs) (hl : xs.length ≤ 1000000) :
  Calls Tryz.prog 49 #[v, .func (.func 47) #[] #[.pointer (some ⟨A, 0, none⟩), .pointer (some ⟨B, 0, none⟩), .pointer (some ⟨C, 0, none⟩)]] w fun e w' => e = .returned (.bool (xs.any fun x => V.covP x.n.adv n s ver)) /\ Below w.heap.size w w' := by
 have HF := zu8 hf
 have HV := zu8 hr
 clear hf hr
 go_enter Tryz.func49, Tryz.ntmps49
 go_wp2_with fail
 refine (nidx_any n s ver A B C v xs w HF.out HV.out hl).mono ?_
 rintro e w1 ⟨i, rfl, hb, hi⟩
 have HI := zu8 hi
 have HB := zu8 hb
 clear hi hb
 go_wp2
 go_ret
 exact ⟨by rw [← HI.out]; rfl, HB.out⟩
namespace V
def abv (n : Int) (a b : Bs) : Bool := decide ((qc n a b).2 = 0) && decide (0 < (qc n a b).1)
def zc8 (n : Int) (s cur : Bs) (ys : List Note) (st : Bs × Bool) (v : Bs) : Bs × Bool :=
 if (!abv n v cur || (st.2 && !abv n st.1 v)) = true then st else if (ys.any fun x => covP x.adv n s v) = true then st else (v, true)
def upTo (n : Int) (s cur : Bs) (ys : List Note) (vs : List Bs) (k : Nat) : Bs × Bool := (vs.take k).foldl (zc8 n s cur ys) ([], false)
theorem zf8 {n : Int} {s cur : Bs} {ys : List Note} {vs : List Bs} {k : Nat} (h : k < vs.length) : upTo n s cur ys vs (k + 1) = zc8 n s cur ys (upTo n s cur ys vs k) vs[k] := by
 unfold upTo
 rw [List.take_succ_eq_append_getElem h, List.foldl_append]
 rfl
theorem zjj {n : Int} {s cur : Bs} {ys : List Note} {vs : List Bs} {m : Nat} (h : ∀ v ∈ vs, v.length ≤ m) : ∀ {k : Nat}, (upTo n s cur ys vs k).1.length ≤ m
 | 0 => by simp [upTo]
 | k + 1 => by
  have ih := zjj (n := n) (s := s) (cur := cur) (ys := ys) h (k := k)
  by_cases hk : k < vs.length
  ·rw [zf8 hk]
   unfold zc8
   split
   ·exact ih
   ·split
    ·exact ih
    ·exact h _ (List.getElem_mem hk)
  ·unfold upTo at *
   rw [List.take_of_length_le (by omega)] at *
   exact ih
end V
theorem zwt {P : Prop} (h : P := by
 have HE9 : Hid (V.upTo n s cur ys vs (k + 1) = (y, true)) := zu8 (by rw [HE.out, hcv]; rfl)
 clear hcv
 go_wp2
 go_roundw
 case rel => exact ⟨k + 1, y, true, by omega, by go_num, rfl, rfl, HE9.out, HB9.out⟩
 case measure => simp [intOf]; omega) : P := h
theorem zgy (v : Value) (xs : List NV) (n : Int) (s cur : V.Bs) (sv : Value) (vs : List V.Bs) (w : World) (hm : zj w) (hv : Notes w v xs) (hl : xs.length ≤ 1000000) (hc : cur.length ≤ maxLen) (hs : Strs w sv vs) (j1 : vs.length ≤ 1000000) (h1 : ∀ x ∈ vs, x.length ≤ maxLen) :
  Calls Tryz.prog 27 #[v, .int .i64 n, .string ⟨s.toArray⟩, .string ⟨cur.toArray⟩, sv] w fun e w' => e = .returned (.tuple #[.string ⟨(V.upTo n s cur (xs.map (·.n)) vs vs.length).1.toArray⟩, .bool (V.upTo n s cur (xs.map (·.n)) vs vs.length).2]) /\ Below w.heap.size w w' := by
 have g2 : Below w.heap.size w ((w.alloc (.cells #[.int .i64 n] 3)).alloc (.cells #[.string ⟨s.toArray⟩] 9)) := ((zvb _ w).alloc (zva _) _).alloc (by simp) _
 obtain ⟨W0, hW0⟩ : ∃ W0, W0 = (w.alloc (.cells #[.int .i64 n] 3)).alloc (.cells #[.string ⟨s.toArray⟩] 9) := ⟨_, rfl⟩
 rw [← hW0] at g2
 have HB0 := zu8 g2
 have HM := zu8 (hm.below g2)
 have HV := zu8 (hv.below g2)
 have HS := zu8 (hs.below g2)
 have HC := zu8 hc
 have g5 := zu8 h1
 have HA : Hid (W0.heap[w.heap.size]? = some (.cells #[.int .i64 n] 3 (0, 0))) := zu8 (by rw [hW0, heap_alloc, if_neg (by simp), heap_alloc, if_pos rfl])
 have h2 : Hid (W0.heap[w.heap.size + 1]? = some (.cells #[.string ⟨s.toArray⟩] 9 (0, 0))) := zu8 (by rw [hW0, heap_alloc, if_pos (by simp)])
 have HW := zu8 hW0
 obtain ⟨sa, sc, rfl⟩ := hs.slice
 clear hm hv hs hc h1 g2 hW0
 go_enter Tryz.func27, Tryz.ntmps27
 go_wp2_with fail
 rw [← HW.out]
 have h7 : ∀ x ∈ vs, x.length ≤ maxLen := g5.out
 generalize g6 : xs.map (·.n) = ys
 have h3 : Hid (∀ y, (ys.any fun x => V.covP x.adv n s y) = (xs.any fun x => V.covP x.n.adv n s y)) := zu8 (fun y => by rw [← g6, List.any_map]; rfl)
 have h6 := zu8 g6
 clear g6 h7
 go_loopw [12, 13, 19] (fun bv fv iv wx => ∃ (k : Nat) (b : V.Bs) (f : Bool), k ≤ vs.length /\ iv = .int .i64 k /\ bv = .string ⟨b.toArray⟩ /\ fv = .bool f /\ V.upTo n s cur ys vs k = (b, f) /\ Below W0.heap.size W0 wx) (fun _ _ iv _ => vs.length - (intOf iv).toNat)
 case atStart => exact ⟨0, [], false, Nat.zero_le _, rfl, rfl, rfl, rfl, zvb _ _⟩
 case round =>
  obtain ⟨k, b, f, hk, rfl, rfl, rfl, g4, g3⟩ := hrel
  have h8 := zu8 g4
  have HBX := zu8 g3
  by_cases hlt : k < vs.length
  ·obtain ⟨g, off, h9, hg, hc⟩ := HS.out.atS k hlt
   subst h9
   have h4 := (g3.cell (p := ⟨g, off + k, none⟩) hg).trans hc
   obtain ⟨y, hy⟩ : ∃ y, y = vs[k] := ⟨_, rfl⟩
   have g7 : Hid (y.length ≤ maxLen) := zu8 (by rw [hy]; exact g5.out _ (List.getElem_mem hlt))
   have j0 : Hid (b.length ≤ maxLen) := zu8 (by have := V.zjj (n := n) (s := s) (cur := cur) (ys := ys) g5.out (k := k); rw [g4] at this; exact this)
   have HST : Hid (V.upTo n s cur ys vs (k + 1) = V.zc8 n s cur ys (b, f) y) := zu8 (by rw [V.zf8 hlt, g4, hy])
   rw [← hy] at h4
   have hb2 : Below wr.heap.size wr (wr.alloc (.cells #[.string ⟨y.toArray⟩] 9)) := (zvb _ wr).alloc (zva _) _
   have HB2 := zu8 (g3.trans (hb2.mono g3.size))
   have HF2 : Hid (CFix n s y w.heap.size (w.heap.size + 1) wr.heap.size (wr.alloc (.cells #[.string ⟨y.toArray⟩] 9))) := zu8 ⟨HM.out.below HB2.out, g7.out, (HB2.out.block _ (Array.getElem?_eq_some_iff.1 HA.out).1).trans HA.out, (HB2.out.block _ (Array.getElem?_eq_some_iff.1 h2.out).1).trans h2.out, heap_alloc_new wr _⟩
   have a0 : (wr.alloc (.cells #[.string ⟨y.toArray⟩] 9)).cell? ⟨w.heap.size, 0, none⟩ = some (.int .i64 n) := by rw [cell_of_row _ _ _ _ _ _ HF2.out.a]; rfl
   have i1 : (0 : Int) ≤ (k : Int) := by omega
   have i2 : (k : Int) < (vs.length : Int) := by omega
   have j2 : k < 1000000 := by omega
   clear hy hc hb2 g4 g3
   go_wp2_with fail
   clear h4
   generalize wr.alloc (.cells #[.string ⟨y.toArray⟩] 9) = w2 at *
   generalize wr.heap.size = C at *
   refine (zl9 n y cur w2 HF2.out.m g7.out HC.out).mono ?_
   rintro e w3 ⟨rfl, hb3⟩
   have HF3 := zu8 (HF2.out.below hb3)
   have HB3 := zu9 HB2 hb3
   have a0 : w3.cell? ⟨w.heap.size, 0, none⟩ = some (.int .i64 n) := by rw [cell_of_row _ _ _ _ _ _ HF3.out.a]; rfl
   have c0 : w3.cell? ⟨C, 0, none⟩ = some (.string ⟨y.toArray⟩) := by rw [cell_of_row _ _ _ _ _ _ HF3.out.c]; rfl
   clear hb3
   rw [show (decide ((V.qc n y cur).2 = 0) && decide (0 < (V.qc n y cur).1)) = V.abv n y cur from rfl]
   rcases g0 : V.abv n y cur with _ | _
   ·have HE : Hid (V.upTo n s cur ys vs (k + 1) = (b, f)) := zu8 (by rw [HST.out]; unfold V.zc8; rw [g0, if_pos (by simp)])
    clear g0
    go_wp2
    go_roundw
    case rel => exact ⟨k + 1, b, f, by omega, by go_num, rfl, rfl, HE.out, HB3.out⟩
    case measure => simp [intOf]; omega
   ·rcases f with _ | _
    ·have HE : Hid (V.upTo n s cur ys vs (k + 1) = if (ys.any fun x => V.covP x.adv n s y) = true then (b, false) else (y, true)) := zu8 (by rw [HST.out]; unfold V.zc8; rw [g0, if_neg (by simp)])
     clear g0
     go_wp2_with fail
     refine (zlb n s y w.heap.size (w.heap.size + 1) C v xs w3 HF3.out (HV.out.below HB3.out) hl).mono ?_
     rintro e w9 ⟨rfl, g1⟩
     rw [← h3.out]
     have g8 := zu8 (HF3.out.below g1)
     have HB9 := zu9 HB3 g1
     have c0 : w9.cell? ⟨C, 0, none⟩ = some (.string ⟨y.toArray⟩) := by rw [cell_of_row _ _ _ _ _ _ g8.out.c]; rfl
     clear g1
     rcases hcv : (ys.any fun x => V.covP x.adv n s y) with _ | _
     ·exact zwt
     ·have HE9 : Hid (V.upTo n s cur ys vs (k + 1) = (b, false)) := zu8 (by rw [HE.out, hcv]; rfl)
      clear hcv
      go_wp2
      go_roundw
      case rel => exact ⟨k + 1, b, false, by omega, by go_num, rfl, rfl, HE9.out, HB9.out⟩
      case measure => simp [intOf]; omega
    ·have g9 : Hid (V.upTo n s cur ys vs (k + 1) = if (!V.abv n b y) = true then (b, true) else if (ys.any fun x => V.covP x.adv n s y) = true then (b, true) else (y, true)) := zu8 (by rw [HST.out]; unfold V.zc8; rw [g0]; rfl)
     clear g0
     go_wp2_with fail
     refine (zl9 n b y w3 HF3.out.m j0.out g7.out).mono ?_
     rintro e w4 ⟨rfl, h0⟩
     have h5 := zu8 (HF3.out.below h0)
     have HB4 := zu9 HB3 h0
     rw [show (decide ((V.qc n b y).2 = 0) && decide (0 < (V.qc n b y).1)) = V.abv n b y from rfl]
     clear h0 a0 c0
     rcases g0 : V.abv n b y with _ | _
     ·have HE : Hid (V.upTo n s cur ys vs (k + 1) = (b, true)) := zu8 (by rw [g9.out, g0]; rfl)
      clear g0
      go_wp2
      go_roundw
      case rel => exact ⟨k + 1, b, true, by omega, by go_num, rfl, rfl, HE.out, HB4.out⟩
      case measure => simp [intOf]; omega
     ·have HE : Hid (V.upTo n s cur ys vs (k + 1) = if (ys.any fun x => V.covP x.adv n s y) = true then (b, true) else (y, true)) := zu8 (by rw [g9.out, g0]; rfl)
      clear g0
      go_wp2_with fail
      refine (zlb n s y w.heap.size (w.heap.size + 1) C v xs w4 h5.out (HV.out.below HB4.out) hl).mono ?_
      rintro e w9 ⟨rfl, g1⟩
      rw [← h3.out]
      have g8 := zu8 (h5.out.below g1)
      have HB9 := zu9 HB4 g1
      have c0 : w9.cell? ⟨C, 0, none⟩ = some (.string ⟨y.toArray⟩) := by rw [cell_of_row _ _ _ _ _ _ g8.out.c]; rfl
      clear g1
      rcases hcv : (ys.any fun x => V.covP x.adv n s y) with _ | _
      ·exact zwt
      ·have HE9 : Hid (V.upTo n s cur ys vs (k + 1) = (b, true)) := zu8 (by rw [HE.out, hcv]; rfl)
       clear hcv
       go_wp2
       go_roundw
       case rel => exact ⟨k + 1, b, true, by omega, by go_num, rfl, rfl, HE9.out, HB9.out⟩
       case measure => simp [intOf]; omega
  ·obtain rfl : k = vs.length := by omega
   have HE : Hid (V.upTo n s cur ys vs vs.length = (b, f)) := h8
   clear g4 g3
   go_wp2
   go_ret2
   exact ⟨by rw [h6.out, HE.out]; rfl, HB0.out.trans (HBX.out.mono HB0.out.size)⟩
open Go.RowKit
theorem zhj {n : Int} {v : V.Bs} {k : Int} (h : V.jg n v k = true) : (k = 0 ∨ k = 1 ∨ k = 2) /\ v.length ≤ 64 := by
 by_cases hk : k = 0
 ·exact ⟨.inl hk, by rw [V.zud h hk]; simp⟩
 ·exact ⟨.inr (V.uz h hk).1, (V.valid_len (V.uz h hk).2).2⟩
namespace V
end V
open Go.RowKit
def itvE (x : V.Itv) : List Value := [.string ⟨x.lo.toArray⟩, .int .i64 x.lk, .string ⟨x.hi.toArray⟩, .int .i64 x.hk]
theorem zj6 (x : V.Itv) : (itvE x).length = 4 := rfl
theorem zoh (x : V.Itv) : ∀ u ∈ itvE x, u.oneCell' = true := by
 intro u hu
 simp [itvE] at hu
 rcases hu with rfl | rfl | rfl | rfl <;> rfl
theorem zsp : jh 83 4 48 := by
 have h : (match Tryz.prog.info? 83 with | some i => i.size == 4 && (i.bytes == 48 && (match i.zero with | some z => z.cells.size == 4 | none => false)) | none => false) = true := by kernel_rfl
 unfold jh
 cases hq : Tryz.prog.info? 83 with
 | none => rw [hq] at h; cases h
 | some i =>
  exact zvk
def ItRow (w : World) (N : Nat) (v : Value) (l : List V.Itv) : Prop := GRow 83 4 itvE w N v l
theorem ItRow.itvs {w : World} {N : Nat} {v : Value} {l : List V.Itv} (h : ItRow w N v l) : Itvs w v l := by
 obtain ⟨a, cap, rfl⟩ := GRow.slice h
 refine ⟨a, cap, rfl, fun j hj => ?_⟩
 obtain ⟨g, c, e, _, hlt, hc⟩ := GRow.at zj6 h j hj
 cases e
 refine ⟨g, 0, rfl, hlt, ?_, ?_, ?_, ?_⟩
 ·rw [Nat.zero_add]; have := hc 0 _ rfl; rwa [Nat.add_zero] at this
 ·rw [Nat.zero_add]; exact hc 1 _ rfl
 ·rw [Nat.zero_add]; exact hc 2 _ rfl
 ·rw [Nat.zero_add]; exact hc 3 _ rfl
def itvC (x : V.Itv) : Array Value := #[.string ⟨x.lo.toArray⟩, .int .i64 x.lk, .string ⟨x.hi.toArray⟩, .int .i64 x.hk]
theorem zes (w : World) (a b c : Obj) : (((w.alloc a).alloc b).alloc c).heap[w.heap.size]? = some a /\ (((w.alloc a).alloc b).alloc c).heap[w.heap.size + 1]? = some b /\ (((w.alloc a).alloc b).alloc c).heap[w.heap.size + 1 + 1]? = some c /\ (((w.alloc a).alloc b).alloc c).heap.size = w.heap.size + 1 + 1 + 1 := by
 refine ⟨?_, ?_, ?_, by simp⟩
 ·rw [heap_alloc, if_neg (by simp; omega), heap_alloc, if_neg (by simp), heap_alloc, if_pos rfl]
 ·rw [heap_alloc, if_neg (by simp), heap_alloc, if_pos (by simp)]
 ·rw [heap_alloc, if_pos (by simp)]
theorem qu (n : Int) (a : Option Addr) (len cap : Nat) : (#[Value.int .i64 n, .slice a len cap] : Array Value).all (·.oneCell') = true := by simp [Value.oneCell']
theorem yi : (Tryz.prog.info? 83).map (·.size) = some 4 := by kernel_rfl
theorem itvsSize : (Tryz.prog.info? 66).map (·.size) = some 1 := by kernel_rfl
namespace V
theorem zdu (n : Int) : valid n [] = false := rfl
end V
def zol (r : Option V.Itv) (w : World) (e : Ending) (w' : World) : Prop :=
 ∃ (y : V.Itv) (b : Bool), e = .returned (.tuple #[itvV y, .bool b]) /\ (b = false /\ r = none ∨ b = true /\ r = some y) /\ Below w.heap.size w w'
theorem jd {r : Option V.Itv} {y : V.Itv} {b : Bool} {w w' : World} (h : r = if b then some y else none) (hb : Below w.heap.size w w') : zol r w (.returned (.tuple #[itvV y, .bool b])) w' := by
 refine ⟨y, b, rfl, ?_, hb⟩
 rw [h]
 cases b
 ·exact .inl ⟨rfl, rfl⟩
 ·exact .inr ⟨rfl, rfl⟩
theorem ws {w w' : World} {g : Nat} {cs : Array Value} {t : TypeId} (hb : Below w.heap.size w w') (h : w.heap[g]? = some (.cells cs t (0, 0))) : w'.heap[g]? = some (.cells cs t (0, 0)) :=
 (hb.block g (Array.getElem?_eq_some_iff.1 h).1).trans h
open Go.RowKit
theorem zb7 : ∀ a b : V.Bs, Op.bytesLess a b = decide (V.cb a b < 0)
 | [], [] => rfl
 | [], _ :: _ => rfl
 | _ :: _, [] => rfl
 | x :: a, y :: b => by
  unfold Op.bytesLess
  rcases V.zhv x y a b with ⟨h, e⟩ | ⟨h, e⟩ | ⟨h, e⟩
  ·rw [e]; simp [h]
  ·subst h
   have : ¬ x < x := by simp
   rw [e, ← zb7 a b]; simp [this]
  ·exact zxg
theorem PutAt.itvs {w W : World} {g : Nat} {new : Array Value} {t : TypeId} {u : Value} {l : List V.Itv} (h : PutAt w W g new t) (hu : Itvs w u l) (g0 : ∀ c, u.ownBlock = some c -> c ≠ g) : Itvs W u l := by
 obtain ⟨a, cap, rfl, hc⟩ := hu
 refine ⟨a, cap, rfl, fun j hj => ?_⟩
 obtain ⟨b, off, rfl, hlt, h0, h1, h2, h3⟩ := hc j hj
 have hb := g0 b rfl
 exact ⟨b, off, rfl, by rw [h.size]; exact hlt, h.cell h0 hb, h.cell h1 hb, h.cell h2 hb, h.cell h3 hb⟩
namespace V
end V
open Go.RowKit
def xi (r : Int × List V.Itv × Int) (w : World) (e : Ending) (w' : World) : Prop :=
 ∃ u, e = .returned (.tuple #[setV r.1 u, .int .i64 r.2.2]) /\ Itvs w' u r.2.1 /\ (∀ c, u.ownBlock = some c -> w.heap.size ≤ c) /\ Below w.heap.size w w'
theorem xi.zero {w w' : World} (h : Below w.heap.size w w') (k : Int) : xi (0, [], k) w (.returned (.tuple #[setV 0 (.slice none 0 0), .int .i64 k])) w' :=
 ⟨_, rfl, Itvs.nil _, (fun c hc => by cases hc), h⟩
def zab (n : Int) (r : Option (List V.Itv)) (w : World) (e : Ending) (w' : World) : Prop :=
 ∃ (m : Int) (u : Value) (l : List V.Itv) (b : Bool), e = .returned (.tuple #[setV m u, .bool b]) /\ (b = false /\ r = none ∨ b = true /\ m = n /\ r = some l) /\ Itvs w' u l /\ (∀ c, u.ownBlock = some c -> w.heap.size ≤ c) /\ Below w.heap.size w w'
theorem zab.no {n : Int} {w w' : World} (h : Below w.heap.size w w') : zab n none w (.returned (.tuple #[setV 0 (.slice none 0 0), .bool false])) w' :=
 ⟨0, _, [], false, rfl, .inl ⟨rfl, rfl⟩, Itvs.nil _, (fun c hc => by cases hc), h⟩
theorem zab.yes {n : Int} {w w' : World} {u : Value} {l : List V.Itv} {r : Option (List V.Itv)} (hr : r = some l) (h : Below w.heap.size w w') (hu : Itvs w' u l) (ho : ∀ c, u.ownBlock = some c -> w.heap.size ≤ c) : zab n r w (.returned (.tuple #[setV n u, .bool true])) w' :=
 ⟨n, u, l, true, rfl, .inr ⟨rfl, rfl, hr⟩, hu, ho, h⟩
theorem zqj {n : Int} {out : List V.Itv} {L : List V.Bs} {k : Nat} {y : V.Itv} (hk : k < L.length) (hy : V.kh n L[k] = some y) : V.zar n out (L.drop k) = V.zar n (V.opL n V.andF out [y]) (L.drop (k + 1)) := by
 rw [List.drop_eq_getElem_cons hk, V.zar, hy]
theorem zqx {n : Int} {out : List V.Itv} {L : List V.Bs} {k : Nat} (hk : k < L.length) (hy : V.kh n L[k] = none) : V.zar n out (L.drop k) = none := by
 rw [List.drop_eq_getElem_cons hk, V.zar, hy]
theorem zs6 {w : World} {b : Nat} {y : V.Itv} (h : w.heap[b]? = some (.cells (itvC y) 83 (0, 0))) : Itvs w (.slice (some ⟨b, 0, none⟩) 1 1) [y] := by
 refine ⟨_, 1, rfl, fun j hj => ?_⟩
 obtain rfl : j = 0 := by simpa using hj
 exact ⟨b, 0, rfl, (Array.getElem?_eq_some_iff.1 h).1, zu7 h 0, zu7 h 1, zu7 h 2, zu7 h 3⟩
structure AltInv (n : Int) (w : World) (B X G : Nat) (L : List V.Bs) (out : List V.Itv) (u : Value) (W : World) : Prop where
 below : Below w.heap.size w W
 res : W.heap[B]? = some (.cells #[.int .i64 0, .slice none 0 0] 68 (0, 0))
 box : W.heap[X]? = some (.cells #[.int .i64 n, u] 68 (0, 0))
 one : V.One n out
 set : Itvs W u out
 own : ∀ c, u.ownBlock = some c -> w.heap.size ≤ c /\ c ≠ X /\ c ≠ B
 txt : ∀ j (h : j < L.length), W.cell? ⟨G, j, none⟩ = some (.string ⟨L[j].toArray⟩)
theorem AltInv.later {n : Int} {w W W' : World} {B X G : Nat} {L : List V.Bs} {out : List V.Itv} {u : Value} (h : AltInv n w B X G L out u W) (hb : Below W.heap.size W W') : AltInv n w B X G L out u W' :=
 ⟨h.below.trans (hb.mono h.below.size), ws hb h.res, ws hb h.box, h.one, h.set.below hb, h.own, fun j hj => zb hb (h.txt j hj)⟩
theorem AltInv.put {n : Int} {w W W' : World} {B X G : Nat} {L : List V.Bs} {out out' : List V.Itv} {u u' : Value} (h : AltInv n w B X G L out u W) (hp : PutAt W W' X #[.int .i64 n, u'] 68) (hX : w.heap.size ≤ X) (g0 : B ≠ X) (g1 : G ≠ X)
  (ho : V.One n out') (hs : Itvs W u' out') (hw : ∀ c, u'.ownBlock = some c -> w.heap.size ≤ c /\ c ≠ X /\ c ≠ B) : AltInv n w B X G L out' u' W' :=
 ⟨hp.below h.below hX, hp.other h.res g0, hp.here, ho, hp.itvs hs (fun c hc => (hw c hc).2.1), hw, fun j hj => hp.cell (h.txt j hj) g1⟩
end Go.Proofs.YtbikeahmldobkaaGreatDoor
