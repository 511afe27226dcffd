/-
  Lemmas for the law.
-/
import Derived.Test.YtbikeahmldobkaaGreatDoorC41x19
import Derived.Test.YtbikeahmldobkaaGreatDoorC41x03
import Derived.Test.YtbikeahmldobkaaGreatDoorC41x20
import Derived.Test.YtbikeahmldobkaaGreatDoorC41x04
import Derived.Test.YtbikeahmldobkaaGreatDoorC41x01
import Derived.Test.YtbikeahmldobkaaGreatDoorC41x11
import Derived.Test.YtbikeahmldobkaaGreatDoorC41x12
import Derived.Test.YtbikeahmldobkaaGreatDoorC41x15
import Derived.Test.YtbikeahmldobkaaGreatDoorC41x10
import Derived.StillTailTactics
import Derived.OrdersHeld
import Derived.Lib.BufSteps
import Derived.OwnWalk
import Derived.BigRegion
import Derived.Deep.MidRow
import Derived.Great.BuildSlice
import Derived.Deep.Upon
set_option linter.all false
set_option maxRecDepth 100000
set_option maxHeartbeats 3200000
namespace Go.Proofs.YtbikeahmldobkaaGreatDoor
open Go.RowKit
theorem zgm (x y : V.Bs) (w : World) (hx : x.length ≤ 1000) (hy : y.length ≤ 1000) :
  Calls Tryz.prog 87 #[.string ⟨x.toArray⟩, .string ⟨y.toArray⟩] w fun e w' => e = .returned (.int .i64 (V.jc x y)) /\ w' = w := by
 have h := zd8 ⟨x.toArray⟩ ⟨y.toArray⟩ w (by show x.length ≤ _; unfold maxLen; omega) (by show y.length ≤ _; unfold maxLen; omega)
 simp only  at h
 exact h.mono fun _ _ h => ⟨h.1, h.2.symm⟩
theorem zh4 {s : V.Bs} {l pre : List V.Bs} (h : V.zl s = some (l, pre)) : l.length = 3 := by
 unfold V.zl at h
 split at h
 ·cases h
 ·rename_i hn
  split at h
  ·simp only [Option.some.injEq, Prod.mk.injEq] at h
   obtain ⟨rfl, _⟩ := h
   simp only [Bool.or_eq_true, not_or] at hn
   simpa using hn.2
  ·cases h
theorem zng {s : V.Bs} {l pre : List V.Bs} (h : V.zl s = some (l, pre)) : pre.length ≤ s.length + 1 := by
 unfold V.zl at h
 split at h
 ·cases h
 ·split at h
  ·simp only [Option.some.injEq, Prod.mk.injEq] at h
   obtain ⟨_, h⟩ := h
   have h1 := V.zcl 43 s
   have h2 := V.zcl 45 (V.cut1 43 s).1
   have h3 := qy 46 (V.cut1 45 (V.cut1 43 s).1).2.1
   split at h
   ·subst h; omega
   ·subst h; simp
  ·cases h
theorem sem_hit (x y : List V.Bs × List V.Bs) (k : Nat) (hk : k < 3) (h : ∀ j, j < k -> V.numbers (x.1.getD j []) (y.1.getD j []) = 0) (h0 : V.numbers (x.1.getD k []) (y.1.getD k []) ≠ 0) :
  V.qp x y = V.numbers (x.1.getD k []) (y.1.getD k []) := by
 have h3 : k = 0 ∨ k = 1 ∨ k = 2 := by omega
 unfold V.qp
 rcases h3 with rfl | rfl | rfl
 ·simp only [V.orI, V.jb h0]
 ·simp only [V.orI, h 0 (by omega), V.xf, V.jb h0]
 ·simp only [V.orI, h 0 (by omega), h 1 (by omega), V.xf, V.jb h0]
theorem sem_zero (x y : List V.Bs × List V.Bs) (h : ∀ j, j < 3 -> V.numbers (x.1.getD j []) (y.1.getD j []) = 0) : V.qp x y = V.wl x.2 y.2 := by
 unfold V.qp
 simp only [V.orI, h 0 (by omega), h 1 (by omega), h 2 (by omega), V.xf]
theorem zh5 {r : Option (List V.Bs × List V.Bs)} {l pre : List V.Bs} {w : World} {e : Ending} {w' : World} (h : RSem r w e w') (hr : r = some (l, pre)) (h3 : l.length = 3) :
  ∃ b off cap a c, e = .returned (.tuple #[.slice (some ⟨b, off, none⟩) 3 cap, .slice a pre.length c, .bool true]) /\ b < w'.heap.size /\ (∀ j, j < 3 -> w'.cell? ⟨b, off + j, none⟩ = some (.string ⟨(l.getD j []).toArray⟩)) /\
   Strs w' (.slice a pre.length c) pre /\ Below w.heap.size w w' := by
 subst hr
 obtain ⟨hb, v, u, rfl, hs, hu⟩ := h
 obtain ⟨b, off, cap, rfl, hlt, hc⟩ := hs.head (by omega)
 have hu' := hu
 obtain ⟨a, c, rfl⟩ := hu.slice
 rw [h3] at hc
 exact ⟨b, off, cap, a, c, by rw [h3], hlt, hc, hu', hb⟩
theorem zrf {P : Prop} (h : P := by
 go_wp2_with fail
 refine (zda _ _).mono ?_
 rintro e w' ⟨rfl, rfl⟩
 go_wp2
 go_ret
 exact ⟨zn HR.out.symm, HB2.out.trans (HB.out.mono HB2.out.size)⟩) : P := h
theorem zgj (s t : ByteArray) (la pa lb pb : List V.Bs) (w : World) (hm : zm w) (hs : s.size ≤ 64) (ht : t.size ≤ 64)
  (hp : V.zl s.data.toList = some (la, pa)) (hq : V.zl t.data.toList = some (lb, pb)) :
  Calls Tryz.prog 52 #[.string s, .string t] w fun e w' => e = .returned (.int .i64 (V.qp (la, pa) (lb, pb))) /\ Below w.heap.size w w' := by
 have fa := V.xd hp
 have fb := V.xd hq
 have na := zng hp
 have nb := zng hq
 rw [zi] at fa fb na nb
 have GA : Hid (∀ j, (la.getD j []).length ≤ 64) := zpa (fun j => by have := V.za8 fa.1 j; omega)
 have GB : Hid (∀ j, (lb.getD j []).length ≤ 64) := zpa (fun j => by have := V.za8 fb.1 j; omega)
 have IA : Hid (∀ j, (pa.getD j []).length ≤ 64) := zpa (fun j => by have := V.za8 (fun x hx => (fa.2 x hx).1) j; omega)
 have IB : Hid (∀ j, (pb.getD j []).length ≤ 64) := zpa (fun j => by have := V.za8 (fun x hx => (fb.2 x hx).1) j; omega)
 have hpa : pa.length ≤ 65 := by omega
 have hpb : pb.length ≤ 65 := by omega
 have T1 := zpa (zh4 hp)
 have T2 := zpa (zh4 hq)
 have HP := zpa hp
 have HQ := zpa hq
 have HM := zpa hm
 clear hp hq hm fa fb na nb
 go_enter Tryz.func52, Tryz.ntmps52
 go_wp2_with fail
 refine (zak s _ HM.out (by omega)).mono ?_
 rintro e w1 h
 obtain ⟨b1, o1, cap1, a3, c3, rfl, lt1, hc1, hs1, hb1⟩ := zh5 h HP.out T1.out
 have hm1 := HM.out.below hb1
 have HB1 := zpa hb1
 have HC1 := zpa hc1
 have HS1 := zpa hs1
 clear h hb1 hc1 hs1
 go_wp2_with fail
 refine (zak t _ hm1 (by omega)).mono ?_
 rintro e w2 h
 obtain ⟨b2, o2, cap2, a4, c4, rfl, lt2, hc2, hs2, hb2⟩ := zh5 h HQ.out T2.out
 have lt1' : b1 < w2.heap.size := Nat.lt_of_lt_of_le lt1 hb2.size
 have HC1' : Hid (∀ j, j < 3 -> w2.cell? ⟨b1, o1 + j, none⟩ = some (.string ⟨(la.getD j []).toArray⟩)) := zpa (fun j hj => (hb2.cell (p := ⟨b1, o1 + j, none⟩) lt1).trans (HC1.out j hj))
 have HC2 := zpa hc2
 have HS1' := zpa (HS1.out.below hb2)
 have HS2 := zpa hs2
 have HB2 := zpb HB1 hb2
 clear h hb2 hc2 hs2 HC1 HS1 hm1 lt1
 go_wp2
 go_loopw [11] (fun i wr => ∃ k : Nat, k ≤ 3 /\ i = .int .i64 k /\ (∀ j, j < k -> V.numbers (la.getD j []) (lb.getD j []) = 0) /\ Below w2.heap.size w2 wr) (fun i _ => 3 - (intOf i).toNat)
 case atStart => exact ⟨0, Nat.zero_le _, rfl, fun j hj => by omega, zpd _ _⟩
 case round =>
  obtain ⟨k, hk, rfl, hz, hB⟩ := hrel
  have HZ := zpa hz
  have HB := zpa hB
  clear hz hB
  by_cases hlt : k < 3
  ·have hx := (HB.out.cell (p := ⟨b1, o1 + k, none⟩) lt1').trans (HC1'.out k hlt)
   have hy := (HB.out.cell (p := ⟨b2, o2 + k, none⟩) lt2).trans (HC2.out k hlt)
   have hlx := GA.out k
   have hly := GB.out k
   have HHIT := zpa (sem_hit (la, pa) (lb, pb) k hlt HZ.out)
   have HNEXT : Hid (V.numbers (la.getD k []) (lb.getD k []) = 0 -> ∀ j, j < k + 1 -> V.numbers (la.getD j []) (lb.getD j []) = 0) := zpa (fun h0 j hj => by
     by_cases e : j = k
     · subst e; exact h0
     · exact HZ.out j (by omega))
   simp only at HHIT
   generalize la.getD k [] = x at *
   generalize lb.getD k [] = y at *
   go_wp2
   go_quiet ((go_at_call 86; exact Calls.quiet_of_same (zat x y _ (by omega) (by omega))))
   rename_i nq
   have HB5 := zpa (below_drewN HB.out nq)
   clear hx hy
   generalize wr.drewN nq = W at *
   by_cases h0 : V.numbers x y = 0
   ·have HN := zpa (HNEXT.out h0)
    rw [h0]
    clear h0
    go_wp2
    go_roundw
    case rel => exact ⟨k + 1, by omega, by go_num, HN.out, HB5.out⟩
    case measure => simp [intOf]; omega
   ·have HR : Hid (V.qp (la, pa) (lb, pb) = V.numbers x y) := zpa (HHIT.out h0)
    have hb : (V.numbers x y != 0) = true := by simpa using h0
    generalize V.numbers x y = c at *
    clear h0
    go_wp2
    go_ret
    exact ⟨zn HR.out.symm, HB2.out.trans (HB5.out.mono HB2.out.size)⟩
  ·obtain rfl : k = 3 := by omega
   have HF : Hid (V.qp (la, pa) (lb, pb) = V.wl pa pb) := zpa (sem_zero _ _ HZ.out)
   have hP : Hid (V.wl pa pb = if pa.isEmpty || pb.isEmpty then Lib.compareInt pb.length pa.length else V.qm V.jc pa pb) := rfl
   have HBE := zpa (HB2.out.trans (HB.out.mono HB2.out.size))
   clear hlt
   by_cases h1 : pa.length = 0
   ·have b1e : ((pa.length : Int) == 0) = true := by rw [h1]; rfl
    have b1g : ¬ (0 < pa.length) := by omega
    have HF3 : Hid (V.qp (la, pa) (lb, pb) = Lib.compareInt pb.length 0) := zpa (by
      rw [HF.out, hP.out, if_pos (by rw [List.eq_nil_of_length_eq_zero h1]; rfl), h1]; rfl)
    clear h1
    by_cases h2 : 0 < pb.length
    ·have HF4 : Hid (V.qp (la, pa) (lb, pb) = 1) := zpa (by
       rw [HF3.out]; unfold Lib.compareInt; rw [if_neg (by omega), if_pos (by omega)])
     go_wp2
     go_ret
     exact ⟨zn HF4.out.symm, HBE.out⟩
    ·have HF4 : Hid (V.qp (la, pa) (lb, pb) = 0) := zpa (by
       rw [HF3.out]; unfold Lib.compareInt; rw [if_neg (by omega), if_neg (by omega)])
     go_wp2
     go_ret
     exact ⟨zn HF4.out.symm, HBE.out⟩
   ·have b1e : ((pa.length : Int) == 0) = false := by rw [zpe]; omega
    have b1g : 0 < pa.length := by omega
    by_cases h2 : pb.length = 0
    ·have b2e : ((pb.length : Int) == 0) = true := by rw [h2]; rfl
     have HF4 : Hid (V.qp (la, pa) (lb, pb) = -1) := zpa (by
       rw [HF.out, hP.out, if_pos (by rw [List.eq_nil_of_length_eq_zero h2]; simp), h2]; unfold Lib.compareInt; rw [if_pos (by simp; omega)])
     clear h1 h2
     go_wp2
     go_ret
     exact ⟨zn HF4.out.symm, HBE.out⟩
    ·have b2e : ((pb.length : Int) == 0) = false := by rw [zpe]; omega
     have b2g : 0 < pb.length := by omega
     have HF3 : Hid (V.qp (la, pa) (lb, pb) = V.qm V.jc pa pb) := zpa (by
       rw [HF.out, hP.out, if_neg]
       cases pa <;> cases pb <;> simp at h1 h2 ⊢)
     clear h1 h2
     obtain ⟨b5, o5, e5, lt5, _⟩ := HS1'.out.at 0 b1g
     obtain ⟨b6, o6, e6, lt6, _⟩ := HS2.out.at 0 b2g
     have HD1 : Hid (∀ j, j < pa.length -> w2.cell? ⟨b5, o5 + j, none⟩ = some (.string ⟨(pa.getD j []).toArray⟩)) := zpa (fun j hj => by
       obtain ⟨b', o', e', _, h⟩ := HS1'.out.at j hj
       rw [e5] at e'; cases e'; exact h)
     have HD2 : Hid (∀ j, j < pb.length -> w2.cell? ⟨b6, o6 + j, none⟩ = some (.string ⟨(pb.getD j []).toArray⟩)) := zpa (fun j hj => by
       obtain ⟨b', o', e', _, h⟩ := HS2.out.at j hj
       rw [e6] at e'; cases e'; exact h)
     subst e5 e6
     clear HS1' HS2
     obtain ⟨wo, hwo⟩ : ∃ wo : World, wo = wr := ⟨_, rfl⟩
     subst hwo
     go_wp2
     go_loopw [13] (fun i wr => ∃ k : Nat, k ≤ pa.length /\ k ≤ pb.length /\ i = .int .i64 k /\ (∀ j, j < k -> V.jc (pa.getD j []) (pb.getD j []) = 0) /\ Below w2.heap.size w2 wr) (fun i _ => pa.length - (intOf i).toNat)
     case atStart => exact ⟨0, Nat.zero_le _, Nat.zero_le _, rfl, fun j hj => by omega, HB.out⟩
     case round =>
      obtain ⟨k, hk1, hk2, rfl, hz, hB⟩ := hrel
      have HZ := zpa hz
      have HB := zpa hB
      clear hz hB
      by_cases hlt1 : k < pa.length
      ·by_cases hlt2 : k < pb.length
       ·have hx := (HB.out.cell (p := ⟨b5, o5 + k, none⟩) lt5).trans (HD1.out k hlt1)
        have hy := (HB.out.cell (p := ⟨b6, o6 + k, none⟩) lt6).trans (HD2.out k hlt2)
        have hlx := IA.out k
        have hly := IB.out k
        have HHIT := zpa (zdu k pa pb hlt1 hlt2 HZ.out)
        have HNEXT : Hid (V.jc (pa.getD k []) (pb.getD k []) = 0 -> ∀ j, j < k + 1 -> V.jc (pa.getD j []) (pb.getD j []) = 0) := zpa (fun h0 j hj => by
          by_cases e : j = k
          · subst e; exact h0
          · exact HZ.out j (by omega))
        generalize pa.getD k [] = x at *
        generalize pb.getD k [] = y at *
        go_wp2
        go_quiet ((go_at_call 87; exact Calls.quiet_of_same (zgm x y _ (by omega) (by omega))))
        rename_i nq
        have HB5 := zpa (below_drewN HB.out nq)
        clear hx hy
        generalize wr.drewN nq = W at *
        by_cases h0 : V.jc x y = 0
        ·have HN := zpa (HNEXT.out h0)
         rw [h0]
         clear h0
         go_wp2
         go_roundw
         case rel => exact ⟨k + 1, by omega, by omega, by go_num, HN.out, HB5.out⟩
         case measure => simp [intOf]; omega
        ·have HR : Hid (V.qp (la, pa) (lb, pb) = V.jc x y) := zpa (by rw [HF3.out]; exact HHIT.out h0)
         have hb : (V.jc x y != 0) = true := by simpa using h0
         generalize V.jc x y = c at *
         clear h0
         go_wp2
         go_ret
         exact ⟨zn HR.out.symm, HB2.out.trans (HB5.out.mono HB2.out.size)⟩
       ·have HR : Hid (V.qp (la, pa) (lb, pb) = V.sgn ((pa.length : Int) - pb.length)) := zpa (by
          rw [HF3.out, zca k pa pb hlt1 (by omega) HZ.out]; unfold V.sgn; rw [if_neg (by omega), if_pos (by omega)])
        exact zrf
      ·have HR : Hid (V.qp (la, pa) (lb, pb) = V.sgn ((pa.length : Int) - pb.length)) := zpa (by
         rw [HF3.out, zbq k pa pb (by omega) hk2 HZ.out]; unfold V.sgn
         by_cases hl : k < pb.length
         · rw [if_pos hl, if_pos (by omega)]
         · rw [if_neg hl, if_neg (by omega), if_neg (by omega)])
       exact zrf
theorem zaw (n : Int) (w : World) :
  Calls Tryz.prog 83 #[.int .i64 n] w fun e w' => e = .returned (.bool (V.scheme n)) /\ w = w' := by
 have hs : V.scheme n = (decide (1 ≤ n) && decide (n ≤ 3)) := by
  rw [Bool.eq_iff_iff]; unfold V.scheme; simp; omega
 have HS := zpa hs
 clear hs
 go_enter Tryz.func83, Tryz.ntmps83
 go_wp2
 all_goals go_ret
 all_goals exact ⟨zf (by rw [HS.out]; simp_all; try omega), rfl⟩
theorem zq5 {P : Prop} (h : P := by
 rintro e w1 ⟨rfl, hb⟩
 have HB := zpa hb
 clear hb
 go_wp2
 go_ret
 exact ⟨zn HC.out.symm, HB.out⟩) : P := h
theorem kd (n : Int) (s t : ByteArray) (w : World) (hm : zm w) (hn : V.scheme n = true) (hs : V.valid n s.data.toList = true) (ht : V.valid n t.data.toList = true) :
  Calls Tryz.prog 29 #[.int .i64 n, .string s, .string t] w fun e w' => e = .returned (.int .i64 (V.cmpV n s.data.toList t.data.toList)) /\ Below w.heap.size w w' := by
 have l1 := V.ky hs
 have l2 := V.ky ht
 rw [zi] at l1 l2
 have HM := zpa hm
 have h3 : n = 1 ∨ n = 2 ∨ n = 3 := by unfold V.scheme at hn; simpa [or_assoc] using hn
 rcases h3 with rfl | rfl | rfl
 ·obtain ⟨⟨la, pa⟩, e1⟩ := Option.isSome_iff_exists.1 (show (V.zl s.data.toList).isSome = true by unfold V.valid V.kj at hs; simp at hs; exact hs.2)
  obtain ⟨⟨lb, pb⟩, e2⟩ := Option.isSome_iff_exists.1 (show (V.zl t.data.toList).isSome = true by unfold V.valid V.kj at ht; simp at ht; exact ht.2)
  have HC : Hid (V.cmpV 1 s.data.toList t.data.toList = V.qp (la, pa) (lb, pb)) := zpa (by unfold V.cmpV; rw [if_pos rfl, e1, e2])
  have E1 := zpa e1
  have E2 := zpa e2
  clear e1 e2 hs ht hm hn
  go_enter Tryz.func29, Tryz.ntmps29
  go_wp2_with fail
  refine (zgj s t la pa lb pb _ HM.out l1 l2 E1.out E2.out).mono ?_
  exact zq5
 ·obtain ⟨⟨x0, x1, x2⟩, e1⟩ := Option.isSome_iff_exists.1 (show (V.zq s.data.toList).isSome = true by unfold V.valid V.kj at hs; simp at hs; exact hs.2)
  obtain ⟨⟨y0, y1, y2⟩, e2⟩ := Option.isSome_iff_exists.1 (show (V.zq t.data.toList).isSome = true by unfold V.valid V.kj at ht; simp at ht; exact ht.2)
  have HC : Hid (V.cmpV 2 s.data.toList t.data.toList = V.xa (x0, x1, x2) (y0, y1, y2)) := zpa (by unfold V.cmpV; rw [if_neg (by decide), if_pos rfl, e1, e2])
  have E1 := zpa e1
  have E2 := zpa e2
  clear e1 e2 hs ht hm hn
  go_enter Tryz.func29, Tryz.ntmps29
  go_wp2_with fail
  refine (zgu s t x0 x1 x2 y0 y1 y2 _ HM.out l1 l2 E1.out E2.out).mono ?_
  exact zq5
 ·have HC : Hid (V.cmpV 3 s.data.toList t.data.toList = V.uh s.data.toList t.data.toList) := zpa (by unfold V.cmpV; rw [if_neg (by decide), if_neg (by decide)])
  clear hs ht hm hn
  go_enter Tryz.func29, Tryz.ntmps29
  go_wp2_with fail
  refine (zlb s t _ HM.out l1 l2).mono ?_
  exact zq5
open Go.RowKit
theorem zmg (n : Int) (s t : ByteArray) (c k : Int) (h : V.zv n s.data.toList t.data.toList = (c, k)) (w : World) (hm : zm w) (hs : s.size ≤ maxLen) (ht : t.size ≤ maxLen) :
  Calls Tryz.prog 79 #[.int .i64 n, .string s, .string t] w fun e w' => e = .returned (.tuple #[.int .i64 c, .int .i64 k]) /\ Below w.heap.size w w' := by
 have := zd0 n s t w hm hs ht
 rw [h] at this
 exact this
open Go.RowKit
open Go.RowKit
theorem xj : ∀ a b : V.Bs, Op.bytesLess a b = decide (V.cb a b < 0)
 | [], [] => rfl
 | [], _ :: _ => rfl
 | _ :: _, [] => rfl
 | x :: a, y :: b => by
  unfold Op.bytesLess
  rcases V.ziw x y a b with ⟨h, e⟩ | ⟨h, e⟩ | ⟨h, e⟩
  ·rw [e]; simp [h]
  ·subst h
   have : ¬ x < x := by simp
   rw [e, ← xj a b]; simp [this]
  ·have h1 : ¬ x < y := fun g => by rw [UInt8.lt_iff_toNat_lt] at h g; omega
   have h2 : (x == y) = false := by
    rw [zpe]; intro g; subst g; simp at h
   rw [e, h2]; simp [h1]
theorem zgb (s : ByteArray) (w : World) : Calls Tryz.prog 184 #[.string s] w fun e w' => e = .returned (.bool false) /\ w' = w := by
 go_enter Tryz.func184, Tryz.ntmps184
 go_wp2
 go_ret
 first | exact ⟨rfl, rfl⟩ | simp
theorem zl1 (s t : ByteArray) (w : World) : Calls Tryz.prog 154 #[.string s, .string t] w fun e w' => e = .returned (.int .i64 (Lib.compareBytes s.data.toList t.data.toList)) /\ w' = w := by
 have h1 : Op.bytesLess s.toList t.toList = decide (Lib.compareBytes s.data.toList t.data.toList < 0) := by rw [Lib.toList_data, Lib.toList_data]; exact xj _ _
 have h2 : Op.bytesLess t.toList s.toList = decide (0 < Lib.compareBytes s.data.toList t.data.toList) := by
  rw [Lib.toList_data, Lib.toList_data, xj, V.za5 s.data.toList t.data.toList]
  exact decide_eq_decide.2 (by show - V.cb s.data.toList t.data.toList < 0 ↔ 0 < V.cb s.data.toList t.data.toList; omega)
 have h3 : (s.toList == t.toList) = decide (Lib.compareBytes s.data.toList t.data.toList = 0) := by
  rw [Lib.toList_data, Lib.toList_data, Bool.eq_iff_iff, beq_iff_eq, decide_eq_true_eq]
  exact ⟨fun e => by rw [e]; exact V.zje _, fun e => V.cb_eq e⟩
 have HR : Hid (Lib.compareBytes s.data.toList t.data.toList = -1 ∨ Lib.compareBytes s.data.toList t.data.toList = 0 ∨ Lib.compareBytes s.data.toList t.data.toList = 1) := zpa (V.zjk _ _)
 generalize Lib.compareBytes s.data.toList t.data.toList = c at *
 go_enter Tryz.func154, Tryz.ntmps154
 go_wp2_with fail
 refine (zgb s _).mono ?_
 rintro e w' ⟨rfl, rfl⟩
 go_wp2_with fail
 refine (zgb t _).mono ?_
 rintro e w' ⟨rfl, rfl⟩
 rcases HR.out with rfl | rfl | rfl
 all_goals
  simp only [show decide ((-1 : Int) < 0) = true from rfl, show decide ((0 : Int) < -1) = false from rfl, show decide ((0 : Int) < 0) = false from rfl, show decide ((1 : Int) < 0) = false from rfl, show decide ((0 : Int) < 1) = true from rfl, show decide ((-1 : Int) = 0) = false from rfl, show decide ((0 : Int) = 0) = true from rfl, show decide ((1 : Int) = 0) = false from rfl] at h1 h2 h3
  clear HR
  go_wp2
  go_ret
  first | exact ⟨rfl, rfl⟩ | simp
open Go.RowKit
end Go.Proofs.YtbikeahmldobkaaGreatDoor
