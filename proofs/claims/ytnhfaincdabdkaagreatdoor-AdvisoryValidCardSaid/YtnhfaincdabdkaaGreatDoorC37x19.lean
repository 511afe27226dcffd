/-
  Lemmas for the law.
-/
import Derived.Test.YtnhfaincdabdkaaGreatDoorC37x18
import Derived.Test.YtnhfaincdabdkaaGreatDoorC37x04
import Derived.Test.YtnhfaincdabdkaaGreatDoorC37x16
import Derived.Test.YtnhfaincdabdkaaGreatDoorC37x03
import Derived.Test.YtnhfaincdabdkaaGreatDoorC37x01
import Derived.Test.YtnhfaincdabdkaaGreatDoorC37x13
import Derived.Test.YtnhfaincdabdkaaGreatDoorC37x08
import Derived.OwnWalk
import Derived.BigRegion
import Derived.Maps.AppendAt
import Derived.Maps.RangeWalk
import Derived.StillTailTactics
import Derived.OrdersHeld
set_option linter.all false
set_option maxRecDepth 100000
set_option maxHeartbeats 3200000
namespace Go.Proofs.YtnhfaincdabdkaaGreatDoor
open Go.RowKit
theorem zi5 (x y : V.Bs) (w : World) (hx : x.length ≤ 1000) (hy : y.length ≤ 1000) :
  Calls Tryz.prog 190 #[.string ⟨x.toArray⟩, .string ⟨y.toArray⟩] w fun e w' => e = .returned (.int .i64 (V.jt x y)) /\ w' = w := by
 have h := zgd ⟨x.toArray⟩ ⟨y.toArray⟩ w (by show x.length ≤ _; unfold maxLen; omega) (by show y.length ≤ _; unfold maxLen; omega)
 simp only  at h
 exact h.mono fun _ _ h => ⟨h.1, h.2.symm⟩
theorem zks {s : V.Bs} {l pre : List V.Bs} (h : V.zi s = some (l, pre)) : l.length = 3 := by
 unfold V.zi at h
 split at h
 ·cases h
 ·rename_i hn
  split at h
  ·simp only [Option.some.injEq, Prod.mk.injEq] at h
   obtain ⟨rfl, _⟩ := h
   simp only [Bool.or_eq_true, not_or] at hn
   simpa using hn.2
  ·cases h
theorem zq5 {s : V.Bs} {l pre : List V.Bs} (h : V.zi s = some (l, pre)) : pre.length ≤ s.length + 1 := by
 unfold V.zi at h
 split at h
 ·cases h
 ·split at h
  ·simp only [Option.some.injEq, Prod.mk.injEq] at h
   obtain ⟨_, h⟩ := h
   have h1 := V.zen 43 s
   have h2 := V.zen 45 (V.cut1 43 s).1
   have h3 := jh 46 (V.cut1 45 (V.cut1 43 s).1).2.1
   split at h
   ·subst h; omega
   ·subst h; simp
  ·cases h
theorem sem_hit (x y : List V.Bs × List V.Bs) (k : Nat) (hk : k < 3) (h : ∀ j, j < k -> V.numbers (x.1.getD j []) (y.1.getD j []) = 0) (h0 : V.numbers (x.1.getD k []) (y.1.getD k []) ≠ 0) :
  V.jb x y = V.numbers (x.1.getD k []) (y.1.getD k []) := by
 have h3 : k = 0 ∨ k = 1 ∨ k = 2 := by omega
 unfold V.jb
 rcases h3 with rfl | rfl | rfl
 ·simp only [V.orI, V.js h0]
 ·simp only [V.orI, h 0 (by omega), V.uh, V.js h0]
 ·simp only [V.orI, h 0 (by omega), h 1 (by omega), V.uh, V.js h0]
theorem sem_zero (x y : List V.Bs × List V.Bs) (h : ∀ j, j < 3 -> V.numbers (x.1.getD j []) (y.1.getD j []) = 0) : V.jb x y = V.zbp x.2 y.2 := by
 unfold V.jb
 simp only [V.orI, h 0 (by omega), h 1 (by omega), h 2 (by omega), V.uh]
theorem zkt {r : Option (List V.Bs × List V.Bs)} {l pre : List V.Bs} {w : World} {e : Ending} {w' : World} (h : RSem r w e w') (hr : r = some (l, pre)) (h3 : l.length = 3) :
  ∃ b off cap a c, e = .returned (.tuple #[.slice (some ⟨b, off, none⟩) 3 cap, .slice a pre.length c, .bool true]) /\ b < w'.heap.size /\ (∀ j, j < 3 -> w'.cell? ⟨b, off + j, none⟩ = some (.string ⟨(l.getD j []).toArray⟩)) /\
   Strs w' (.slice a pre.length c) pre /\ Below w.heap.size w w' := by
 subst hr
 obtain ⟨hb, v, u, rfl, hs, hu⟩ := h
 obtain ⟨b, off, cap, rfl, hlt, hc⟩ := hs.head (by omega)
 have hu' := hu
 obtain ⟨a, c, rfl⟩ := hu.slice
 rw [h3] at hc
 exact ⟨b, off, cap, a, c, by rw [h3], hlt, hc, hu', hb⟩
theorem zwb {P : Prop} (h : P := by
 go_wp2_with fail
 refine (zfe _ _).mono ?_
 rintro e w' ⟨rfl, rfl⟩
 go_wp2
 go_ret
 exact ⟨zj HR.out.symm, HB2.out.trans (HB.out.mono HB2.out.size)⟩) : P := h
theorem zi1 (s t : ByteArray) (la pa lb pb : List V.Bs) (w : World) (hm : zk w) (hs : s.size ≤ 64) (ht : t.size ≤ 64)
  (hp : V.zi s.data.toList = some (la, pa)) (hq : V.zi t.data.toList = some (lb, pb)) :
  Calls Tryz.prog 159 #[.string s, .string t] w fun e w' => e = .returned (.int .i64 (V.jb (la, pa) (lb, pb))) /\ Below w.heap.size w w' := by
 have fa := V.uf hp
 have fb := V.uf hq
 have na := zq5 hp
 have nb := zq5 hq
 rw [zf] at fa fb na nb
 have GA : Hid (∀ j, (la.getD j []).length ≤ 64) := zs8 (fun j => by have := V.zcy fa.1 j; omega)
 have GB : Hid (∀ j, (lb.getD j []).length ≤ 64) := zs8 (fun j => by have := V.zcy fb.1 j; omega)
 have IA : Hid (∀ j, (pa.getD j []).length ≤ 64) := zs8 (fun j => by have := V.zcy (fun x hx => (fa.2 x hx).1) j; omega)
 have IB : Hid (∀ j, (pb.getD j []).length ≤ 64) := zs8 (fun j => by have := V.zcy (fun x hx => (fb.2 x hx).1) j; omega)
 have hpa : pa.length ≤ 65 := by omega
 have hpb : pb.length ≤ 65 := by omega
 have T1 := zs8 (zks hp)
 have T2 := zs8 (zks hq)
 have HP := zs8 hp
 have HQ := zs8 hq
 have HM := zs8 hm
 clear hp hq hm fa fb na nb
 go_enter Tryz.func159, Tryz.ntmps159
 go_wp2_with fail
 refine (zb6 s _ HM.out (by omega)).mono ?_
 rintro e w1 h
 obtain ⟨b1, o1, cap1, a3, c3, rfl, lt1, hc1, hs1, hb1⟩ := zkt h HP.out T1.out
 have hm1 := HM.out.below hb1
 have HB1 := zs8 hb1
 have HC1 := zs8 hc1
 have HS1 := zs8 hs1
 clear h hb1 hc1 hs1
 go_wp2_with fail
 refine (zb6 t _ hm1 (by omega)).mono ?_
 rintro e w2 h
 obtain ⟨b2, o2, cap2, a4, c4, rfl, lt2, hc2, hs2, hb2⟩ := zkt h HQ.out T2.out
 have lt1' : b1 < w2.heap.size := Nat.lt_of_lt_of_le lt1 hb2.size
 have HC1' : Hid (∀ j, j < 3 -> w2.cell? ⟨b1, o1 + j, none⟩ = some (.string ⟨(la.getD j []).toArray⟩)) := zs8 (fun j hj => (hb2.cell (p := ⟨b1, o1 + j, none⟩) lt1).trans (HC1.out j hj))
 have HC2 := zs8 hc2
 have HS1' := zs8 (HS1.out.below hb2)
 have HS2 := zs8 hs2
 have HB2 := zs9 HB1 hb2
 clear h hb2 hc2 hs2 HC1 HS1 hm1 lt1
 go_wp2
 go_loopw [11] (fun i wr => ∃ k : Nat, k ≤ 3 /\ i = .int .i64 k /\ (∀ j, j < k -> V.numbers (la.getD j []) (lb.getD j []) = 0) /\ Below w2.heap.size w2 wr) (fun i _ => 3 - (intOf i).toNat)
 case atStart => exact ⟨0, Nat.zero_le _, rfl, fun j hj => by omega, ztb _ _⟩
 case round =>
  obtain ⟨k, hk, rfl, hz, hB⟩ := hrel
  have HZ := zs8 hz
  have HB := zs8 hB
  clear hz hB
  by_cases hlt : k < 3
  ·have hx := (HB.out.cell (p := ⟨b1, o1 + k, none⟩) lt1').trans (HC1'.out k hlt)
   have hy := (HB.out.cell (p := ⟨b2, o2 + k, none⟩) lt2).trans (HC2.out k hlt)
   have hlx := GA.out k
   have hly := GB.out k
   have HHIT := zs8 (sem_hit (la, pa) (lb, pb) k hlt HZ.out)
   have HNEXT : Hid (V.numbers (la.getD k []) (lb.getD k []) = 0 -> ∀ j, j < k + 1 -> V.numbers (la.getD j []) (lb.getD j []) = 0) := zs8 (fun h0 j hj => by
     by_cases e : j = k
     · subst e; exact h0
     · exact HZ.out j (by omega))
   simp only at HHIT
   generalize la.getD k [] = x at *
   generalize lb.getD k [] = y at *
   go_wp2
   go_quiet ((go_at_call 189; exact Calls.quiet_of_same (zcd x y _ (by omega) (by omega))))
   rename_i nq
   have HB5 := zs8 (below_drewN HB.out nq)
   clear hx hy
   generalize wr.drewN nq = W at *
   by_cases h0 : V.numbers x y = 0
   ·have HN := zs8 (HNEXT.out h0)
    rw [h0]
    clear h0
    go_wp2
    go_roundw
    case rel => exact ⟨k + 1, by omega, by go_num, HN.out, HB5.out⟩
    case measure => simp [intOf]; omega
   ·have HR : Hid (V.jb (la, pa) (lb, pb) = V.numbers x y) := zs8 (HHIT.out h0)
    have hb : (V.numbers x y != 0) = true := by simpa using h0
    generalize V.numbers x y = c at *
    clear h0
    go_wp2
    go_ret
    exact ⟨zj HR.out.symm, HB2.out.trans (HB5.out.mono HB2.out.size)⟩
  ·obtain rfl : k = 3 := by omega
   have HF : Hid (V.jb (la, pa) (lb, pb) = V.zbp pa pb) := zs8 (sem_zero _ _ HZ.out)
   have hP : Hid (V.zbp pa pb = if pa.isEmpty || pb.isEmpty then Lib.compareInt pb.length pa.length else V.qu V.jt pa pb) := rfl
   have HBE := zs8 (HB2.out.trans (HB.out.mono HB2.out.size))
   clear hlt
   by_cases h1 : pa.length = 0
   ·have b1e : ((pa.length : Int) == 0) = true := by rw [h1]; rfl
    have b1g : ¬ (0 < pa.length) := by omega
    have HF3 : Hid (V.jb (la, pa) (lb, pb) = Lib.compareInt pb.length 0) := zs8 (by
      rw [HF.out, hP.out, if_pos (by rw [List.eq_nil_of_length_eq_zero h1]; rfl), h1]; rfl)
    clear h1
    by_cases h2 : 0 < pb.length
    ·have HF4 : Hid (V.jb (la, pa) (lb, pb) = 1) := zs8 (by
       rw [HF3.out]; unfold Lib.compareInt; rw [if_neg (by omega), if_pos (by omega)])
     go_wp2
     go_ret
     exact ⟨zj HF4.out.symm, HBE.out⟩
    ·have HF4 : Hid (V.jb (la, pa) (lb, pb) = 0) := zs8 (by
       rw [HF3.out]; unfold Lib.compareInt; rw [if_neg (by omega), if_neg (by omega)])
     go_wp2
     go_ret
     exact ⟨zj HF4.out.symm, HBE.out⟩
   ·have b1e : ((pa.length : Int) == 0) = false := by rw [ztc]; omega
    have b1g : 0 < pa.length := by omega
    by_cases h2 : pb.length = 0
    ·have b2e : ((pb.length : Int) == 0) = true := by rw [h2]; rfl
     have HF4 : Hid (V.jb (la, pa) (lb, pb) = -1) := zs8 (by
       rw [HF.out, hP.out, if_pos (by rw [List.eq_nil_of_length_eq_zero h2]; simp), h2]; unfold Lib.compareInt; rw [if_pos (by simp; omega)])
     clear h1 h2
     go_wp2
     go_ret
     exact ⟨zj HF4.out.symm, HBE.out⟩
    ·have b2e : ((pb.length : Int) == 0) = false := by rw [ztc]; omega
     have b2g : 0 < pb.length := by omega
     have HF3 : Hid (V.jb (la, pa) (lb, pb) = V.qu V.jt pa pb) := zs8 (by
       rw [HF.out, hP.out, if_neg]
       cases pa <;> cases pb <;> simp at h1 h2 ⊢)
     clear h1 h2
     obtain ⟨b5, o5, e5, lt5, _⟩ := HS1'.out.at 0 b1g
     obtain ⟨b6, o6, e6, lt6, _⟩ := HS2.out.at 0 b2g
     have HD1 : Hid (∀ j, j < pa.length -> w2.cell? ⟨b5, o5 + j, none⟩ = some (.string ⟨(pa.getD j []).toArray⟩)) := zs8 (fun j hj => by
       obtain ⟨b', o', e', _, h⟩ := HS1'.out.at j hj
       rw [e5] at e'; cases e'; exact h)
     have HD2 : Hid (∀ j, j < pb.length -> w2.cell? ⟨b6, o6 + j, none⟩ = some (.string ⟨(pb.getD j []).toArray⟩)) := zs8 (fun j hj => by
       obtain ⟨b', o', e', _, h⟩ := HS2.out.at j hj
       rw [e6] at e'; cases e'; exact h)
     subst e5 e6
     clear HS1' HS2
     obtain ⟨wo, hwo⟩ : ∃ wo : World, wo = wr := ⟨_, rfl⟩
     subst hwo
     go_wp2
     go_loopw [13] (fun i wr => ∃ k : Nat, k ≤ pa.length /\ k ≤ pb.length /\ i = .int .i64 k /\ (∀ j, j < k -> V.jt (pa.getD j []) (pb.getD j []) = 0) /\ Below w2.heap.size w2 wr) (fun i _ => pa.length - (intOf i).toNat)
     case atStart => exact ⟨0, Nat.zero_le _, Nat.zero_le _, rfl, fun j hj => by omega, HB.out⟩
     case round =>
      obtain ⟨k, hk1, hk2, rfl, hz, hB⟩ := hrel
      have HZ := zs8 hz
      have HB := zs8 hB
      clear hz hB
      by_cases hlt1 : k < pa.length
      ·by_cases hlt2 : k < pb.length
       ·have hx := (HB.out.cell (p := ⟨b5, o5 + k, none⟩) lt5).trans (HD1.out k hlt1)
        have hy := (HB.out.cell (p := ⟨b6, o6 + k, none⟩) lt6).trans (HD2.out k hlt2)
        have hlx := IA.out k
        have hly := IB.out k
        have HHIT := zs8 (zf5 k pa pb hlt1 hlt2 HZ.out)
        have HNEXT : Hid (V.jt (pa.getD k []) (pb.getD k []) = 0 -> ∀ j, j < k + 1 -> V.jt (pa.getD j []) (pb.getD j []) = 0) := zs8 (fun h0 j hj => by
          by_cases e : j = k
          · subst e; exact h0
          · exact HZ.out j (by omega))
        generalize pa.getD k [] = x at *
        generalize pb.getD k [] = y at *
        go_wp2
        go_quiet ((go_at_call 190; exact Calls.quiet_of_same (zi5 x y _ (by omega) (by omega))))
        rename_i nq
        have HB5 := zs8 (below_drewN HB.out nq)
        clear hx hy
        generalize wr.drewN nq = W at *
        by_cases h0 : V.jt x y = 0
        ·have HN := zs8 (HNEXT.out h0)
         rw [h0]
         clear h0
         go_wp2
         go_roundw
         case rel => exact ⟨k + 1, by omega, by omega, by go_num, HN.out, HB5.out⟩
         case measure => simp [intOf]; omega
        ·have HR : Hid (V.jb (la, pa) (lb, pb) = V.jt x y) := zs8 (by rw [HF3.out]; exact HHIT.out h0)
         have hb : (V.jt x y != 0) = true := by simpa using h0
         generalize V.jt x y = c at *
         clear h0
         go_wp2
         go_ret
         exact ⟨zj HR.out.symm, HB2.out.trans (HB5.out.mono HB2.out.size)⟩
       ·have HR : Hid (V.jb (la, pa) (lb, pb) = V.sgn ((pa.length : Int) - pb.length)) := zs8 (by
          rw [HF3.out, zd9 k pa pb hlt1 (by omega) HZ.out]; unfold V.sgn; rw [if_neg (by omega), if_pos (by omega)])
        exact zwb
      ·have HR : Hid (V.jb (la, pa) (lb, pb) = V.sgn ((pa.length : Int) - pb.length)) := zs8 (by
         rw [HF3.out, zdh k pa pb (by omega) hk2 HZ.out]; unfold V.sgn
         by_cases hl : k < pb.length
         · rw [if_pos hl, if_pos (by omega)]
         · rw [if_neg hl, if_neg (by omega), if_neg (by omega)])
       exact zwb
theorem zck (n : Int) (w : World) :
  Calls Tryz.prog 117 #[.int .i64 n] w fun e w' => e = .returned (.bool (V.scheme n)) /\ w = w' := by
 have hs : V.scheme n = (decide (1 ≤ n) && decide (n ≤ 3)) := by
  rw [Bool.eq_iff_iff]; unfold V.scheme; simp; omega
 have HS := zs8 hs
 clear hs
 go_enter Tryz.func117, Tryz.ntmps117
 go_wp2
 all_goals go_ret
 all_goals exact ⟨zc (by rw [HS.out]; simp_all; try omega), rfl⟩
theorem zvx {P : Prop} (h : P := by
 rintro e w1 ⟨rfl, hb⟩
 have HB := zs8 hb
 clear hb
 go_wp2
 go_ret
 exact ⟨zj HC.out.symm, HB.out⟩) : P := h
theorem zqf (n : Int) (s t : ByteArray) (w : World) (hm : zk w) (hn : V.scheme n = true) (hs : V.valid n s.data.toList = true) (ht : V.valid n t.data.toList = true) :
  Calls Tryz.prog 127 #[.int .i64 n, .string s, .string t] w fun e w' => e = .returned (.int .i64 (V.cmpV n s.data.toList t.data.toList)) /\ Below w.heap.size w w' := by
 have l1 := V.yt hs
 have l2 := V.yt ht
 rw [zf] at l1 l2
 have HM := zs8 hm
 have h3 : n = 1 ∨ n = 2 ∨ n = 3 := by unfold V.scheme at hn; simpa [or_assoc] using hn
 rcases h3 with rfl | rfl | rfl
 ·obtain ⟨⟨la, pa⟩, e1⟩ := Option.isSome_iff_exists.1 (show (V.zi s.data.toList).isSome = true by unfold V.valid V.xq at hs; simp at hs; exact hs.2)
  obtain ⟨⟨lb, pb⟩, e2⟩ := Option.isSome_iff_exists.1 (show (V.zi t.data.toList).isSome = true by unfold V.valid V.xq at ht; simp at ht; exact ht.2)
  have HC : Hid (V.cmpV 1 s.data.toList t.data.toList = V.jb (la, pa) (lb, pb)) := zs8 (by unfold V.cmpV; rw [if_pos rfl, e1, e2])
  have E1 := zs8 e1
  have E2 := zs8 e2
  clear e1 e2 hs ht hm hn
  go_enter Tryz.func127, Tryz.ntmps127
  go_wp2_with fail
  refine (zi1 s t la pa lb pb _ HM.out l1 l2 E1.out E2.out).mono ?_
  exact zvx
 ·obtain ⟨⟨x0, x1, x2⟩, e1⟩ := Option.isSome_iff_exists.1 (show (V.zn s.data.toList).isSome = true by unfold V.valid V.xq at hs; simp at hs; exact hs.2)
  obtain ⟨⟨y0, y1, y2⟩, e2⟩ := Option.isSome_iff_exists.1 (show (V.zn t.data.toList).isSome = true by unfold V.valid V.xq at ht; simp at ht; exact ht.2)
  have HC : Hid (V.cmpV 2 s.data.toList t.data.toList = V.yx (x0, x1, x2) (y0, y1, y2)) := zs8 (by unfold V.cmpV; rw [if_neg (by decide), if_pos rfl, e1, e2])
  have E1 := zs8 e1
  have E2 := zs8 e2
  clear e1 e2 hs ht hm hn
  go_enter Tryz.func127, Tryz.ntmps127
  go_wp2_with fail
  refine (zje s t x0 x1 x2 y0 y1 y2 _ HM.out l1 l2 E1.out E2.out).mono ?_
  exact zvx
 ·have HC : Hid (V.cmpV 3 s.data.toList t.data.toList = V.zaf s.data.toList t.data.toList) := zs8 (by unfold V.cmpV; rw [if_neg (by decide), if_neg (by decide)])
  clear hs ht hm hn
  go_enter Tryz.func127, Tryz.ntmps127
  go_wp2_with fail
  refine (zok s t _ HM.out l1 l2).mono ?_
  exact zvx
theorem zpx (n : Int) (s t : ByteArray) (c k : Int) (h : V.qk n s.data.toList t.data.toList = (c, k)) (w : World) (hm : zk w) (hs : s.size ≤ maxLen) (ht : t.size ≤ maxLen) :
  Calls Tryz.prog 125 #[.int .i64 n, .string s, .string t] w fun e w' => e = .returned (.tuple #[.int .i64 c, .int .i64 k]) /\ Below w.heap.size w w' := by
 have := zov n s t w hm hs ht
 rw [h] at this
 exact this
open Go.RowKit
open Go.RowKit
def Tape (w : World) (b k : Nat) : Prop :=
 ∃ (a : Option Addr) (m cap p : Nat), w.cell? ⟨b, 0, none⟩ = some (.slice a m cap) /\ w.cell? ⟨b, 1, none⟩ = some (.int .i64 p) /\ p ≤ k /\ m ≤ maxLen /\
  w.frozen? ⟨b, 1, none⟩ = false /\
  ∀ j, j < m -> ∃ b' off x, a = some ⟨b', off, none⟩ /\ b' < w.heap.size /\ b' < b /\ w.cell? ⟨b', off + j, none⟩ = some (.int .i64 x) /\ (Lit.int .i64 x).wf = true
theorem Tape.lt {w : World} {b k : Nat} (h : Tape w b k) : b < w.heap.size := by
 obtain ⟨a, m, cap, p, c0, _⟩ := h
 exact World.block_lt_of_cell? _ _ c0
theorem Tape.below {w w' : World} {b k : Nat} (h : Tape w b k) (hb : Below w.heap.size w w') : Tape w' b k := by
 obtain ⟨a, m, cap, p, c0, c1, hp, hm, hf, hx⟩ := h
 have hlt := World.block_lt_of_cell? _ _ c0
 refine ⟨a, m, cap, p, (hb.cell (p := ⟨b, 0, none⟩) hlt).trans c0, (hb.cell (p := ⟨b, 1, none⟩) hlt).trans c1, hp, hm, (hb.frozen (p := ⟨b, 1, none⟩) hlt).trans hf, fun j hj => ?_⟩
 obtain ⟨b', off, x, rfl, h1, h2, h3, h4⟩ := hx j hj
 exact ⟨b', off, x, rfl, Nat.lt_of_lt_of_le h1 hb.size, h2, (hb.cell (p := ⟨b', off + j, none⟩) h1).trans h3, h4⟩
theorem zr7 (w : World) (b o : Nat) (u : Value) : w.grownBy (w.setCell ⟨b, o, none⟩ u) (some b) :=
 ⟨rfl, rfl, rfl, by simp [World.setCell], fun k _ hk => Below.heap_setCell _ _ _ _ (fun e => hk (by rw [e]))⟩
theorem zng {w w' : World} {b B : Nat} (h : w.grownBy w' (some b)) (hb : B ≤ b) (hB : B ≤ w.heap.size) : Below B w w' :=
 ⟨h.os, h.tape, h.output, h.size, fun k hk => h.block k (by omega) (fun e => by cases e; omega)⟩
theorem Tape.step {w : World} {b k : Nat} {a : Option Addr} {m cap p : Nat} {u : Nat} (c0 : w.cell? ⟨b, 0, none⟩ = some (.slice a m cap)) (c1 : w.cell? ⟨b, 1, none⟩ = some (.int .i64 p)) (hp : p ≤ k) (hm : m ≤ maxLen) (hf : w.frozen? ⟨b, 1, none⟩ = false)
  (hx : ∀ j, j < m -> ∃ b' off x, a = some ⟨b', off, none⟩ /\ b' < w.heap.size /\ b' < b /\ w.cell? ⟨b', off + j, none⟩ = some (.int .i64 x) /\ (Lit.int .i64 x).wf = true) (hu : u = p + 1) :
  Tape (w.setCell ⟨b, 1, none⟩ (.int .i64 (u : Int))) b (k + 1) := by
 subst hu
 have e : ∀ (b' o : Nat), b' ≠ b -> (w.setCell ⟨b, 1, none⟩ (.int .i64 ((p + 1 : Nat) : Int))).cell? ⟨b', o, none⟩ = w.cell? ⟨b', o, none⟩ := fun b' o hne =>
  World.cell?_setCell_other _ _ _ _ (by intro e; injection e with e; exact hne e.symm)
 refine ⟨a, m, cap, p + 1, ?_, ?_, by omega, hm, ?_, fun j hj => ?_⟩
 ·rw [World.cell?_setCell_other _ _ _ _ (by intro e; injection e with _ e; exact absurd e (by decide))]; exact c0
 ·rw [World.cell?_setCell_same _ _ _ c1]
 ·simp only [World.frozen?_setCell]; exact hf
 ·obtain ⟨b', off, x, rfl, h1, h2, h3, h4⟩ := hx j hj
  exact ⟨b', off, x, rfl, by simpa [World.setCell] using h1, h2, by rw [e _ _ (Nat.ne_of_lt h2)]; exact h3, h4⟩
theorem Strs.from {w : World} {a : Option Addr} {n cap : Nat} {l : List V.Bs} (h : Strs w (.slice a n cap) l) : n = l.length := by
 obtain ⟨a', c, e, _⟩ := h
 cases e; rfl
open Go.RowKit
def Nums (w : World) (a : Option Addr) (m : Nat) : Prop :=
 m ≤ maxLen /\ ∀ j, j < m -> ∃ b' off x, a = some ⟨b', off, none⟩ /\ b' < w.heap.size /\ w.cell? ⟨b', off + j, none⟩ = some (.int .i64 x) /\ (Lit.int .i64 x).wf = true
structure ThreeInv (w : World) (n : Int) (k : Nat) (wr : World) : Prop where
 below : Below w.heap.size w wr
 size : w.heap.size + 2 < wr.heap.size
 tape : Tape wr (w.heap.size + 1) k
 out : ∃ xs : Nat -> V.Bs, (∀ j, j < 3 -> wr.cell? ⟨w.heap.size + 2, j, none⟩ = some (.string ⟨(xs j).toArray⟩)) /\ ∀ j, j < k -> V.valid n (xs j) = true
 free : ∀ j, wr.frozen? ⟨w.heap.size + 2, j, none⟩ = false
 res : ∀ j, j < 3 -> wr.cell? ⟨w.heap.size, j, none⟩ = some (.string ⟨#[]⟩)
 resfree : ∀ j, wr.frozen? ⟨w.heap.size, j, none⟩ = false
theorem ThreeInv.later {w W W1 : World} {n : Int} {k : Nat} (h : ThreeInv w n k W) (hb : Below W.heap.size W W1) : ThreeInv w n k W1 := by
 obtain ⟨h1, h2, h3, ⟨xs, h4, h5⟩, h6, h7, h8⟩ := h
 have c := fun o v (g : W.cell? ⟨w.heap.size + 2, o, none⟩ = some v) => (hb.cell (p := ⟨w.heap.size + 2, o, none⟩) h2).trans g
 exact ⟨h1.trans (hb.mono h1.size), Nat.lt_of_lt_of_le h2 hb.size, h3.below hb, ⟨xs, fun j hj => c j _ (h4 j hj), h5⟩, fun j => (hb.frozen (p := ⟨w.heap.size + 2, j, none⟩) h2).trans (h6 j),
   fun j hj => (hb.cell (p := ⟨w.heap.size, j, none⟩) (by simp; omega)).trans (h7 j hj), fun j => (hb.frozen (p := ⟨w.heap.size, j, none⟩) (by simp; omega)).trans (h8 j)⟩
open Go.RowKit
theorem zv1 {P : Prop} (h : P := by
 have h1 : ¬ x < y := fun g => by rw [UInt8.lt_iff_toNat_lt] at h g; omega
 have h2 : (x == y) = false := by
  rw [ztc]; intro g; subst g; simp at h
 rw [e, h2]; simp [h1]) : P := h
theorem ui : ∀ a b : V.Bs, Op.bytesLess a b = decide (V.cb a b < 0)
 | [], [] => rfl
 | [], _ :: _ => rfl
 | _ :: _, [] => rfl
 | x :: a, y :: b => by
  unfold Op.bytesLess
  rcases V.zgm x y a b with ⟨h, e⟩ | ⟨h, e⟩ | ⟨h, e⟩
  ·rw [e]; simp [h]
  ·subst h
   have : ¬ x < x := by simp
   rw [e, ← ui a b]; simp [this]
  ·exact zv1
theorem zvm {P : Prop} (h : P := by
 go_enter Tryz.func65, Tryz.ntmps65
 go_wp2
 go_ret
 exact ⟨rfl, rfl⟩) : P := h
theorem zhk (n : Int) (w : World) :
  Calls Tryz.prog 65 #[.int .i64 n] w fun e w' => e = .returned (.string ⟨(V.qb n).toArray⟩) /\ w' = w := by
 by_cases h1 : n = 1
 ·subst h1
  exact zvm
 by_cases h2 : n = 2
 ·subst h2
  exact zvm
 by_cases h3 : n = 3
 ·subst h3
  exact zvm
 have HN : Hid (V.qb n = []) := zs8 (by unfold V.qb; rw [if_neg h1, if_neg h2, if_neg h3])
 go_enter Tryz.func65, Tryz.ntmps65
 go_wp2
 go_ret
 exact ⟨by rw [HN.out]; rfl, rfl⟩
theorem zu4 {P : Prop} (h : P := by
 go_enter Tryz.func68, Tryz.ntmps68
 go_wp2
 go_ret
 exact ⟨rfl, rfl⟩) : P := h
theorem znj (n : Int) (w : World) :
  Calls Tryz.prog 68 #[.int .i64 n] w fun e w' => e = .returned (.string ⟨(V.qb n).toArray⟩) /\ w' = w := by
 by_cases h1 : n = 1
 ·subst h1
  exact zu4
 by_cases h2 : n = 2
 ·subst h2
  exact zu4
 by_cases h3 : n = 3
 ·subst h3
  exact zu4
 have HN : Hid (V.qb n = []) := zs8 (by unfold V.qb; rw [if_neg h1, if_neg h2, if_neg h3])
 go_enter Tryz.func68, Tryz.ntmps68
 go_wp2
 go_ret
 exact ⟨by rw [HN.out]; rfl, rfl⟩
theorem znf (s : ByteArray) (w : World) :
  Calls Tryz.prog 150 #[.string s] w fun e w' => e = .returned (.int .i64 (V.kb s.data.toList)) /\ Below w.heap.size w w' := by
 have HB := zs8 ((ztb w.heap.size w).alloc (zta _) (.cells #[.int .i64 1, .int .i64 2, .int .i64 3] 3))
 have HC : Hid (∀ j, j < 3 -> (w.alloc (.cells #[.int .i64 1, .int .i64 2, .int .i64 3] 3)).cell? ⟨w.heap.size, j, none⟩ = some (.int .i64 ((j + 1 : Nat) : Int))) := zs8 (fun j hj => by
   rw [World.cell?_alloc_new]
   have : j = 0 ∨ j = 1 ∨ j = 2 := by omega
   rcases this with rfl | rfl | rfl <;> rfl)
 go_enter Tryz.func150, Tryz.ntmps150
 go_wp2_with fail
 generalize w.alloc (.cells #[.int .i64 1, .int .i64 2, .int .i64 3] 3) = w0 at *
 go_loopw [7] (fun i W => ∃ k : Nat, k ≤ 3 /\ i = .int .i64 k /\ W = w0 /\ ∀ j : Nat, 1 ≤ j -> j < k + 1 -> ¬ s.data.toList = V.qb j) (fun i _ => 3 - (intOf i).toNat)
 case atStart => exact ⟨0, by omega, rfl, rfl, fun j h1 h2 => by omega⟩
 case round =>
  obtain ⟨k, hk, rfl, rfl, hz⟩ := hrel
  have HZ := zs8 hz
  clear hz
  by_cases hlt : k < 3
  ·have hcell := HC.out k hlt
   obtain ⟨n, hn⟩ : ∃ n : Nat, n = k + 1 := ⟨_, rfl⟩
   rw [← hn] at hcell
   have HNK := zs8 hn
   clear hn
   have i1 : (0 : Int) ≤ (k : Int) := by omega
   have i2 : (k : Int) < 3 := by omega
   go_wp2_with fail
   refine (zhk _ _).mono ?_
   rintro e w' ⟨rfl, rfl⟩
   by_cases he : s.data.toList = V.qb n
   ·have HE := zs8 he
    have hs : s = ⟨(V.qb n).toArray⟩ := jr (by rw [zbt]; exact he)
    have HR : Hid (V.kb s.data.toList = n) := zs8 (V.zrv (by have := HNK.out; omega) (by have := HNK.out; omega) he)
    rw [← hs]
    clear he hs
    go_wp2
    go_ret
    exact ⟨zj HR.out.symm, HB.out⟩
   ·have hne : ((⟨(V.qb n).toArray⟩ : ByteArray).toList == s.toList) = false := by
     rw [Lib.toList_data, Lib.toList_data, zbt]
     exact ztc.2 fun e => he e.symm
    have HR : Hid (∀ j : Nat, 1 ≤ j -> j < n + 1 -> ¬ s.data.toList = V.qb j) := zs8 fun j h1 h2 => by
     by_cases e : j = n
     ·subst e; exact he
     ·exact HZ.out j h1 (by have := HNK.out; omega)
    generalize (⟨(V.qb n).toArray⟩ : ByteArray) = x at *
    clear he
    go_wp2
    go_round
    case rel => exact ⟨k + 1, by omega, by go_num, (by first | exact trivial | rfl), by rw [← HNK.out]; exact HR.out⟩
    case measure => simp [intOf]; omega
  ·have HR : Hid (V.kb s.data.toList = 0) := zs8 (V.zsp fun j h1 h2 => HZ.out j h1 (by omega))
   go_wp2
   go_ret
   exact ⟨zj HR.out.symm, HB.out⟩
theorem zit (s : ByteArray) (w : World) : Calls Tryz.prog 148 #[.string s] w fun e w' => e = .returned (.bool false) /\ w' = w := by
 go_enter Tryz.func148, Tryz.ntmps148
 go_wp2
 go_ret
 first | exact ⟨rfl, rfl⟩ | simp
theorem zpe (s t : ByteArray) (w : World) : Calls Tryz.prog 114 #[.string s, .string t] w fun e w' => e = .returned (.int .i64 (Lib.compareBytes s.data.toList t.data.toList)) /\ w' = w := by
 have h1 : Op.bytesLess s.toList t.toList = decide (Lib.compareBytes s.data.toList t.data.toList < 0) := by rw [Lib.toList_data, Lib.toList_data]; exact ui _ _
 have h2 : Op.bytesLess t.toList s.toList = decide (0 < Lib.compareBytes s.data.toList t.data.toList) := by
  rw [Lib.toList_data, Lib.toList_data, ui, V.kj s.data.toList t.data.toList]
  exact decide_eq_decide.2 (by show - V.cb s.data.toList t.data.toList < 0 ↔ 0 < V.cb s.data.toList t.data.toList; omega)
 have h3 : (s.toList == t.toList) = decide (Lib.compareBytes s.data.toList t.data.toList = 0) := by
  rw [Lib.toList_data, Lib.toList_data, Bool.eq_iff_iff, beq_iff_eq, decide_eq_true_eq]
  exact ⟨fun e => by rw [e]; exact V.ye _, fun e => V.zn4 e⟩
 have HR : Hid (Lib.compareBytes s.data.toList t.data.toList = -1 ∨ Lib.compareBytes s.data.toList t.data.toList = 0 ∨ Lib.compareBytes s.data.toList t.data.toList = 1) := zs8 (V.zig _ _)
 generalize Lib.compareBytes s.data.toList t.data.toList = c at *
 go_enter Tryz.func114, Tryz.ntmps114
 go_wp2_with fail
 refine (zit s _).mono ?_
 rintro e w' ⟨rfl, rfl⟩
 go_wp2_with fail
 refine (zit t _).mono ?_
 rintro e w' ⟨rfl, rfl⟩
 rcases HR.out with rfl | rfl | rfl
 all_goals
  simp only [show decide ((-1 : Int) < 0) = true from rfl, show decide ((0 : Int) < -1) = false from rfl, show decide ((0 : Int) < 0) = false from rfl, show decide ((1 : Int) < 0) = false from rfl, show decide ((0 : Int) < 1) = true from rfl, show decide ((-1 : Int) = 0) = false from rfl, show decide ((0 : Int) = 0) = true from rfl, show decide ((1 : Int) = 0) = false from rfl] at h1 h2 h3
  clear HR
  go_wp2
  go_ret
  first | exact ⟨rfl, rfl⟩ | simp
end Go.Proofs.YtnhfaincdabdkaaGreatDoor
