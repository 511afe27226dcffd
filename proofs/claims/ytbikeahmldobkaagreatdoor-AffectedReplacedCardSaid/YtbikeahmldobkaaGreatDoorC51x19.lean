/-
  Lemmas for the law.
-/
import Derived.Test.YtbikeahmldobkaaGreatDoorC51x15
import Derived.Test.YtbikeahmldobkaaGreatDoorC51x03
import Derived.Test.YtbikeahmldobkaaGreatDoorC51x12
import Derived.Test.YtbikeahmldobkaaGreatDoorC51x02
import Derived.Test.YtbikeahmldobkaaGreatDoorC51x01
import Derived.Test.YtbikeahmldobkaaGreatDoorC51x08
import Derived.Test.YtbikeahmldobkaaGreatDoorC51x10
import Derived.Test.YtbikeahmldobkaaGreatDoorC51x18
import Derived.StillTailTactics
import Derived.OrdersHeld
import Derived.Lib.BufSteps
import Derived.OwnWalk
import Derived.BigRegion
import Derived.Deep.MidRow
import Derived.Great.BuildSlice
import Derived.Deep.Upon
set_option linter.all false
set_option maxRecDepth 100000
set_option maxHeartbeats 3200000
namespace Go.Proofs.YtbikeahmldobkaaGreatDoor
open Go.RowKit
theorem zkl (x y : V.Bs) (w : World) (hx : x.length ≤ 1000) (hy : y.length ≤ 1000) :
  Calls Tryz.prog 87 #[.string ⟨x.toArray⟩, .string ⟨y.toArray⟩] w fun e w' => e = .returned (.int .i64 (V.jt x y)) /\ w' = w := by
 have h := zho ⟨x.toArray⟩ ⟨y.toArray⟩ w (by show x.length ≤ _; unfold maxLen; omega) (by show y.length ≤ _; unfold maxLen; omega)
 simp only  at h
 exact h.mono fun _ _ h => ⟨h.1, h.2.symm⟩
theorem zmc {s : V.Bs} {l pre : List V.Bs} (h : V.zo s = some (l, pre)) : l.length = 3 := by
 unfold V.zo at h
 split at h
 ·cases h
 ·rename_i hn
  split at h
  ·simp only [Option.some.injEq, Prod.mk.injEq] at h
   obtain ⟨rfl, _⟩ := h
   simp only [Bool.or_eq_true, not_or] at hn
   simpa using hn.2
  ·cases h
theorem zsv {s : V.Bs} {l pre : List V.Bs} (h : V.zo s = some (l, pre)) : pre.length ≤ s.length + 1 := by
 unfold V.zo at h
 split at h
 ·cases h
 ·split at h
  ·simp only [Option.some.injEq, Prod.mk.injEq] at h
   obtain ⟨_, h⟩ := h
   have h1 := V.zfr 43 s
   have h2 := V.zfr 45 (V.cut1 43 s).1
   have h3 := jf 46 (V.cut1 45 (V.cut1 43 s).1).2.1
   split at h
   ·subst h; omega
   ·subst h; simp
  ·cases h
theorem sem_hit (x y : List V.Bs × List V.Bs) (k : Nat) (hk : k < 3) (h : ∀ j, j < k -> V.numbers (x.1.getD j []) (y.1.getD j []) = 0) (h0 : V.numbers (x.1.getD k []) (y.1.getD k []) ≠ 0) :
  V.je x y = V.numbers (x.1.getD k []) (y.1.getD k []) := by
 have h3 : k = 0 ∨ k = 1 ∨ k = 2 := by omega
 unfold V.je
 rcases h3 with rfl | rfl | rfl
 ·simp only [V.orI, V.js h0]
 ·simp only [V.orI, h 0 (by omega), V.ue, V.js h0]
 ·simp only [V.orI, h 0 (by omega), h 1 (by omega), V.ue, V.js h0]
theorem sem_zero (x y : List V.Bs × List V.Bs) (h : ∀ j, j < 3 -> V.numbers (x.1.getD j []) (y.1.getD j []) = 0) : V.je x y = V.zcs x.2 y.2 := by
 unfold V.je
 simp only [V.orI, h 0 (by omega), h 1 (by omega), h 2 (by omega), V.ue]
theorem zmf {r : Option (List V.Bs × List V.Bs)} {l pre : List V.Bs} {w : World} {e : Ending} {w' : World} (h : RSem r w e w') (hr : r = some (l, pre)) (h3 : l.length = 3) :
  ∃ b off cap a c, e = .returned (.tuple #[.slice (some ⟨b, off, none⟩) 3 cap, .slice a pre.length c, .bool true]) /\ b < w'.heap.size /\ (∀ j, j < 3 -> w'.cell? ⟨b, off + j, none⟩ = some (.string ⟨(l.getD j []).toArray⟩)) /\
   Strs w' (.slice a pre.length c) pre /\ Below w.heap.size w w' := by
 subst hr
 obtain ⟨hb, v, u, rfl, hs, hu⟩ := h
 obtain ⟨b, off, cap, rfl, hlt, hc⟩ := hs.head (by omega)
 have g0 := hu
 obtain ⟨a, c, rfl⟩ := hu.slice
 rw [h3] at hc
 exact ⟨b, off, cap, a, c, by rw [h3], hlt, hc, g0, hb⟩
theorem zxq {P : Prop} (h : P := by
 go_wp2_with fail
 refine (zgi _ _).mono ?_
 rintro e w' ⟨rfl, rfl⟩
 go_wp2
 go_ret
 exact ⟨zu HR.out.symm, HB2.out.trans (HB.out.mono HB2.out.size)⟩) : P := h
theorem zkj (s t : ByteArray) (la pa lb pb : List V.Bs) (w : World) (hm : zj w) (hs : s.size ≤ 64) (ht : t.size ≤ 64)
  (hp : V.zo s.data.toList = some (la, pa)) (hq : V.zo t.data.toList = some (lb, pb)) :
  Calls Tryz.prog 52 #[.string s, .string t] w fun e w' => e = .returned (.int .i64 (V.je (la, pa) (lb, pb))) /\ Below w.heap.size w w' := by
 have fa := V.yz hp
 have fb := V.yz hq
 have na := zsv hp
 have nb := zsv hq
 rw [zh] at fa fb na nb
 have GA : Hid (∀ j, (la.getD j []).length ≤ 64) := zu8 (fun j => by have := V.zd2 fa.1 j; omega)
 have GB : Hid (∀ j, (lb.getD j []).length ≤ 64) := zu8 (fun j => by have := V.zd2 fb.1 j; omega)
 have IA : Hid (∀ j, (pa.getD j []).length ≤ 64) := zu8 (fun j => by have := V.zd2 (fun x hx => (fa.2 x hx).1) j; omega)
 have IB : Hid (∀ j, (pb.getD j []).length ≤ 64) := zu8 (fun j => by have := V.zd2 (fun x hx => (fb.2 x hx).1) j; omega)
 have hpa : pa.length ≤ 65 := by omega
 have j0 : pb.length ≤ 65 := by omega
 have T1 := zu8 (zmc hp)
 have T2 := zu8 (zmc hq)
 have HP := zu8 hp
 have HQ := zu8 hq
 have HM := zu8 hm
 clear hp hq hm fa fb na nb
 go_enter Tryz.func52, Tryz.ntmps52
 go_wp2_with fail
 refine (zc7 s _ HM.out (by omega)).mono ?_
 rintro e w1 h
 obtain ⟨b1, o1, cap1, a3, c3, rfl, lt1, hc1, g4, hb1⟩ := zmf h HP.out T1.out
 have g5 := HM.out.below hb1
 have HB1 := zu8 hb1
 have g6 := zu8 hc1
 have g7 := zu8 g4
 clear h hb1 hc1 g4
 go_wp2_with fail
 refine (zc7 t _ g5 (by omega)).mono ?_
 rintro e w2 h
 obtain ⟨b2, o2, cap2, a4, c4, rfl, lt2, g8, g9, hb2⟩ := zmf h HQ.out T2.out
 have lt1' : b1 < w2.heap.size := Nat.lt_of_lt_of_le lt1 hb2.size
 have h3 : Hid (∀ j, j < 3 -> w2.cell? ⟨b1, o1 + j, none⟩ = some (.string ⟨(la.getD j []).toArray⟩)) := zu8 (fun j hj => (hb2.cell (p := ⟨b1, o1 + j, none⟩) lt1).trans (g6.out j hj))
 have h4 := zu8 g8
 have g2 := zu8 (g7.out.below hb2)
 have g3 := zu8 g9
 have HB2 := zu9 HB1 hb2
 clear h hb2 g8 g9 g6 g7 g5 lt1
 go_wp2
 go_loopw [11] (fun i wr => ∃ k : Nat, k ≤ 3 /\ i = .int .i64 k /\ (∀ j, j < k -> V.numbers (la.getD j []) (lb.getD j []) = 0) /\ Below w2.heap.size w2 wr) (fun i _ => 3 - (intOf i).toNat)
 case atStart => exact ⟨0, Nat.zero_le _, rfl, fun j hj => by omega, zvb _ _⟩
 case round =>
  obtain ⟨k, hk, rfl, hz, hB⟩ := hrel
  have HZ := zu8 hz
  have HB := zu8 hB
  clear hz hB
  by_cases hlt : k < 3
  ·have hx := (HB.out.cell (p := ⟨b1, o1 + k, none⟩) lt1').trans (h3.out k hlt)
   have hy := (HB.out.cell (p := ⟨b2, o2 + k, none⟩) lt2).trans (h4.out k hlt)
   have h5 := GA.out k
   have h6 := GB.out k
   have g0 := zu8 (sem_hit (la, pa) (lb, pb) k hlt HZ.out)
   have HNEXT : Hid (V.numbers (la.getD k []) (lb.getD k []) = 0 -> ∀ j, j < k + 1 -> V.numbers (la.getD j []) (lb.getD j []) = 0) := zu8 (fun h0 j hj => by
     by_cases e : j = k
     · subst e; exact h0
     · exact HZ.out j (by omega))
   simp only at g0
   generalize la.getD k [] = x at *
   generalize lb.getD k [] = y at *
   go_wp2
   go_quiet ((go_at_call 86; exact Calls.quiet_of_same (zdj x y _ (by omega) (by omega))))
   rename_i nq
   have HB5 := zu8 (below_drewN HB.out nq)
   clear hx hy
   generalize wr.drewN nq = W at *
   by_cases h0 : V.numbers x y = 0
   ·have HN := zu8 (HNEXT.out h0)
    rw [h0]
    clear h0
    go_wp2
    go_roundw
    case rel => exact ⟨k + 1, by omega, by go_num, HN.out, HB5.out⟩
    case measure => simp [intOf]; omega
   ·have HR : Hid (V.je (la, pa) (lb, pb) = V.numbers x y) := zu8 (g0.out h0)
    have hb : (V.numbers x y != 0) = true := by simpa using h0
    generalize V.numbers x y = c at *
    clear h0
    go_wp2
    go_ret
    exact ⟨zu HR.out.symm, HB2.out.trans (HB5.out.mono HB2.out.size)⟩
  ·obtain rfl : k = 3 := by omega
   have HF : Hid (V.je (la, pa) (lb, pb) = V.zcs pa pb) := zu8 (sem_zero _ _ HZ.out)
   have hP : Hid (V.zcs pa pb = if pa.isEmpty || pb.isEmpty then Lib.compareInt pb.length pa.length else V.jb V.jt pa pb) := rfl
   have HBE := zu8 (HB2.out.trans (HB.out.mono HB2.out.size))
   clear hlt
   by_cases h1 : pa.length = 0
   ·have b1e : ((pa.length : Int) == 0) = true := by rw [h1]; rfl
    have b1g : ¬ (0 < pa.length) := by omega
    have HF3 : Hid (V.je (la, pa) (lb, pb) = Lib.compareInt pb.length 0) := zu8 (by
      rw [HF.out, hP.out, if_pos (by rw [List.eq_nil_of_length_eq_zero h1]; rfl), h1]; rfl)
    clear h1
    by_cases h2 : 0 < pb.length
    ·have g1 : Hid (V.je (la, pa) (lb, pb) = 1) := zu8 (by
       rw [HF3.out]; unfold Lib.compareInt; rw [if_neg (by omega), if_pos (by omega)])
     go_wp2
     go_ret
     exact ⟨zu g1.out.symm, HBE.out⟩
    ·have g1 : Hid (V.je (la, pa) (lb, pb) = 0) := zu8 (by
       rw [HF3.out]; unfold Lib.compareInt; rw [if_neg (by omega), if_neg (by omega)])
     go_wp2
     go_ret
     exact ⟨zu g1.out.symm, HBE.out⟩
   ·have b1e : ((pa.length : Int) == 0) = false := by rw [zvc]; omega
    have b1g : 0 < pa.length := by omega
    by_cases h2 : pb.length = 0
    ·have b2e : ((pb.length : Int) == 0) = true := by rw [h2]; rfl
     have g1 : Hid (V.je (la, pa) (lb, pb) = -1) := zu8 (by
       rw [HF.out, hP.out, if_pos (by rw [List.eq_nil_of_length_eq_zero h2]; simp), h2]; unfold Lib.compareInt; rw [if_pos (by simp; omega)])
     clear h1 h2
     go_wp2
     go_ret
     exact ⟨zu g1.out.symm, HBE.out⟩
    ·have b2e : ((pb.length : Int) == 0) = false := by rw [zvc]; omega
     have b2g : 0 < pb.length := by omega
     have HF3 : Hid (V.je (la, pa) (lb, pb) = V.jb V.jt pa pb) := zu8 (by
       rw [HF.out, hP.out, if_neg]
       cases pa <;> cases pb <;> simp at h1 h2 ⊢)
     clear h1 h2
     obtain ⟨b5, o5, e5, lt5, _⟩ := g2.out.at 0 b1g
     obtain ⟨b6, o6, e6, lt6, _⟩ := g3.out.at 0 b2g
     have h7 : Hid (∀ j, j < pa.length -> w2.cell? ⟨b5, o5 + j, none⟩ = some (.string ⟨(pa.getD j []).toArray⟩)) := zu8 (fun j hj => by
       obtain ⟨b', o', e', _, h⟩ := g2.out.at j hj
       rw [e5] at e'; cases e'; exact h)
     have h8 : Hid (∀ j, j < pb.length -> w2.cell? ⟨b6, o6 + j, none⟩ = some (.string ⟨(pb.getD j []).toArray⟩)) := zu8 (fun j hj => by
       obtain ⟨b', o', e', _, h⟩ := g3.out.at j hj
       rw [e6] at e'; cases e'; exact h)
     subst e5 e6
     clear g2 g3
     obtain ⟨wo, h9⟩ : ∃ wo : World, wo = wr := ⟨_, rfl⟩
     subst h9
     go_wp2
     go_loopw [13] (fun i wr => ∃ k : Nat, k ≤ pa.length /\ k ≤ pb.length /\ i = .int .i64 k /\ (∀ j, j < k -> V.jt (pa.getD j []) (pb.getD j []) = 0) /\ Below w2.heap.size w2 wr) (fun i _ => pa.length - (intOf i).toNat)
     case atStart => exact ⟨0, Nat.zero_le _, Nat.zero_le _, rfl, fun j hj => by omega, HB.out⟩
     case round =>
      obtain ⟨k, j1, hk2, rfl, hz, hB⟩ := hrel
      have HZ := zu8 hz
      have HB := zu8 hB
      clear hz hB
      by_cases hlt1 : k < pa.length
      ·by_cases hlt2 : k < pb.length
       ·have hx := (HB.out.cell (p := ⟨b5, o5 + k, none⟩) lt5).trans (h7.out k hlt1)
        have hy := (HB.out.cell (p := ⟨b6, o6 + k, none⟩) lt6).trans (h8.out k hlt2)
        have h5 := IA.out k
        have h6 := IB.out k
        have g0 := zu8 (zhb k pa pb hlt1 hlt2 HZ.out)
        have HNEXT : Hid (V.jt (pa.getD k []) (pb.getD k []) = 0 -> ∀ j, j < k + 1 -> V.jt (pa.getD j []) (pb.getD j []) = 0) := zu8 (fun h0 j hj => by
          by_cases e : j = k
          · subst e; exact h0
          · exact HZ.out j (by omega))
        generalize pa.getD k [] = x at *
        generalize pb.getD k [] = y at *
        go_wp2
        go_quiet ((go_at_call 87; exact Calls.quiet_of_same (zkl x y _ (by omega) (by omega))))
        rename_i nq
        have HB5 := zu8 (below_drewN HB.out nq)
        clear hx hy
        generalize wr.drewN nq = W at *
        by_cases h0 : V.jt x y = 0
        ·have HN := zu8 (HNEXT.out h0)
         rw [h0]
         clear h0
         go_wp2
         go_roundw
         case rel => exact ⟨k + 1, by omega, by omega, by go_num, HN.out, HB5.out⟩
         case measure => simp [intOf]; omega
        ·have HR : Hid (V.je (la, pa) (lb, pb) = V.jt x y) := zu8 (by rw [HF3.out]; exact g0.out h0)
         have hb : (V.jt x y != 0) = true := by simpa using h0
         generalize V.jt x y = c at *
         clear h0
         go_wp2
         go_ret
         exact ⟨zu HR.out.symm, HB2.out.trans (HB5.out.mono HB2.out.size)⟩
       ·have HR : Hid (V.je (la, pa) (lb, pb) = V.sgn ((pa.length : Int) - pb.length)) := zu8 (by
          rw [HF3.out, zfa k pa pb hlt1 (by omega) HZ.out]; unfold V.sgn; rw [if_neg (by omega), if_pos (by omega)])
        exact zxq
      ·have HR : Hid (V.je (la, pa) (lb, pb) = V.sgn ((pa.length : Int) - pb.length)) := zu8 (by
         rw [HF3.out, zem k pa pb (by omega) hk2 HZ.out]; unfold V.sgn
         by_cases hl : k < pb.length
         · rw [if_pos hl, if_pos (by omega)]
         · rw [if_neg hl, if_neg (by omega), if_neg (by omega)])
       exact zxq
theorem zbb (n : Int) (w : World) :
  Calls Tryz.prog 83 #[.int .i64 n] w fun e w' => e = .returned (.bool (V.scheme n)) /\ w = w' := by
 have hs : V.scheme n = (decide (1 ≤ n) && decide (n ≤ 3)) := by
  rw [Bool.eq_iff_iff]; unfold V.scheme; simp; omega
 have HS := zu8 hs
 clear hs
 go_enter Tryz.func83, Tryz.ntmps83
 go_wp2
 all_goals go_ret
 all_goals exact ⟨ze (by rw [HS.out]; simp_all; try omega), rfl⟩
theorem zxd {P : Prop} (h : P := by
 rintro e w1 ⟨rfl, hb⟩
 have HB := zu8 hb
 clear hb
 go_wp2
 go_ret
 exact ⟨zu HC.out.symm, HB.out⟩) : P := h
theorem zr2 (n : Int) (s t : ByteArray) (w : World) (hm : zj w) (hn : V.scheme n = true) (hs : V.valid n s.data.toList = true) (ht : V.valid n t.data.toList = true) :
  Calls Tryz.prog 29 #[.int .i64 n, .string s, .string t] w fun e w' => e = .returned (.int .i64 (V.cmpV n s.data.toList t.data.toList)) /\ Below w.heap.size w w' := by
 have l1 := V.xp hs
 have l2 := V.xp ht
 rw [zh] at l1 l2
 have HM := zu8 hm
 have h3 : n = 1 ∨ n = 2 ∨ n = 3 := by unfold V.scheme at hn; simpa [or_assoc] using hn
 rcases h3 with rfl | rfl | rfl
 ·obtain ⟨⟨la, pa⟩, e1⟩ := Option.isSome_iff_exists.1 (show (V.zo s.data.toList).isSome = true by unfold V.valid V.xl at hs; simp at hs; exact hs.2)
  obtain ⟨⟨lb, pb⟩, e2⟩ := Option.isSome_iff_exists.1 (show (V.zo t.data.toList).isSome = true by unfold V.valid V.xl at ht; simp at ht; exact ht.2)
  have HC : Hid (V.cmpV 1 s.data.toList t.data.toList = V.je (la, pa) (lb, pb)) := zu8 (by unfold V.cmpV; rw [if_pos rfl, e1, e2])
  have E1 := zu8 e1
  have E2 := zu8 e2
  clear e1 e2 hs ht hm hn
  go_enter Tryz.func29, Tryz.ntmps29
  go_wp2_with fail
  refine (zkj s t la pa lb pb _ HM.out l1 l2 E1.out E2.out).mono ?_
  exact zxd
 ·obtain ⟨⟨x0, x1, x2⟩, e1⟩ := Option.isSome_iff_exists.1 (show (V.zw s.data.toList).isSome = true by unfold V.valid V.xl at hs; simp at hs; exact hs.2)
  obtain ⟨⟨y0, y1, y2⟩, e2⟩ := Option.isSome_iff_exists.1 (show (V.zw t.data.toList).isSome = true by unfold V.valid V.xl at ht; simp at ht; exact ht.2)
  have HC : Hid (V.cmpV 2 s.data.toList t.data.toList = V.yv (x0, x1, x2) (y0, y1, y2)) := zu8 (by unfold V.cmpV; rw [if_neg (by decide), if_pos rfl, e1, e2])
  have E1 := zu8 e1
  have E2 := zu8 e2
  clear e1 e2 hs ht hm hn
  go_enter Tryz.func29, Tryz.ntmps29
  go_wp2_with fail
  refine (zkp s t x0 x1 x2 y0 y1 y2 _ HM.out l1 l2 E1.out E2.out).mono ?_
  exact zxd
 ·have HC : Hid (V.cmpV 3 s.data.toList t.data.toList = V.zaw s.data.toList t.data.toList) := zu8 (by unfold V.cmpV; rw [if_neg (by decide), if_neg (by decide)])
  clear hs ht hm hn
  go_enter Tryz.func29, Tryz.ntmps29
  go_wp2_with fail
  refine (zpv s t _ HM.out l1 l2).mono ?_
  exact zxd
open Go.RowKit
theorem zre (n : Int) (s t : ByteArray) (c k : Int) (h : V.qc n s.data.toList t.data.toList = (c, k)) (w : World) (hm : zj w) (hs : s.size ≤ maxLen) (ht : t.size ≤ maxLen) :
  Calls Tryz.prog 79 #[.int .i64 n, .string s, .string t] w fun e w' => e = .returned (.tuple #[.int .i64 c, .int .i64 k]) /\ Below w.heap.size w w' := by
 have := zhf n s t w hm hs ht
 rw [h] at this
 exact this
open Go.RowKit
open Go.RowKit
theorem zxg {P : Prop} (h : P := by
 have h1 : ¬ x < y := fun g => by rw [UInt8.lt_iff_toNat_lt] at h g; omega
 have h2 : (x == y) = false := by
  rw [zvc]; intro g; subst g; simp at h
 rw [e, h2]; simp [h1]) : P := h
theorem uk : ∀ a b : V.Bs, Op.bytesLess a b = decide (V.cb a b < 0)
 | [], [] => rfl
 | [], _ :: _ => rfl
 | _ :: _, [] => rfl
 | x :: a, y :: b => by
  unfold Op.bytesLess
  rcases V.zhv x y a b with ⟨h, e⟩ | ⟨h, e⟩ | ⟨h, e⟩
  ·rw [e]; simp [h]
  ·subst h
   have : ¬ x < x := by simp
   rw [e, ← uk a b]; simp [this]
  ·exact zxg
theorem zkb (s : ByteArray) (w : World) : Calls Tryz.prog 184 #[.string s] w fun e w' => e = .returned (.bool false) /\ w' = w := by
 go_enter Tryz.func184, Tryz.ntmps184
 go_wp2
 go_ret
 first | exact ⟨rfl, rfl⟩ | simp
theorem zqr (s t : ByteArray) (w : World) : Calls Tryz.prog 154 #[.string s, .string t] w fun e w' => e = .returned (.int .i64 (Lib.compareBytes s.data.toList t.data.toList)) /\ w' = w := by
 have h1 : Op.bytesLess s.toList t.toList = decide (Lib.compareBytes s.data.toList t.data.toList < 0) := by rw [Lib.toList_data, Lib.toList_data]; exact uk _ _
 have h2 : Op.bytesLess t.toList s.toList = decide (0 < Lib.compareBytes s.data.toList t.data.toList) := by
  rw [Lib.toList_data, Lib.toList_data, uk, V.kf s.data.toList t.data.toList]
  exact decide_eq_decide.2 (by show - V.cb s.data.toList t.data.toList < 0 ↔ 0 < V.cb s.data.toList t.data.toList; omega)
 have h3 : (s.toList == t.toList) = decide (Lib.compareBytes s.data.toList t.data.toList = 0) := by
  rw [Lib.toList_data, Lib.toList_data, Bool.eq_iff_iff, beq_iff_eq, decide_eq_true_eq]
  exact ⟨fun e => by rw [e]; exact V.uh _, fun e => V.zjg e⟩
 have HR : Hid (Lib.compareBytes s.data.toList t.data.toList = -1 ∨ Lib.compareBytes s.data.toList t.data.toList = 0 ∨ Lib.compareBytes s.data.toList t.data.toList = 1) := zu8 (V.zjv _ _)
 generalize Lib.compareBytes s.data.toList t.data.toList = c at *
 go_enter Tryz.func154, Tryz.ntmps154
 go_wp2_with fail
 refine (zkb s _).mono ?_
 rintro e w' ⟨rfl, rfl⟩
 go_wp2_with fail
 refine (zkb t _).mono ?_
 rintro e w' ⟨rfl, rfl⟩
 rcases HR.out with rfl | rfl | rfl
 all_goals
  simp only [show decide ((-1 : Int) < 0) = true from rfl, show decide ((0 : Int) < -1) = false from rfl, show decide ((0 : Int) < 0) = false from rfl, show decide ((1 : Int) < 0) = false from rfl, show decide ((0 : Int) < 1) = true from rfl, show decide ((-1 : Int) = 0) = false from rfl, show decide ((0 : Int) = 0) = true from rfl, show decide ((1 : Int) = 0) = false from rfl] at h1 h2 h3
  clear HR
  go_wp2
  go_ret
  first | exact ⟨rfl, rfl⟩ | simp
open Go.RowKit
def bvals (l : V.Bs) : List Value := l.map fun b => Value.int .u8 b.toNat
theorem zq0 (l m : V.Bs) : bvals l ++ bvals m = bvals (l ++ m) := by simp [bvals]
theorem zt1 (l : V.Bs) : (bvals l).length = l.length := by simp [bvals]
theorem zlo : ∃ i, Tryz.prog.info? 5 = some i /\ i.zero = some (.int .u8 0) /\ i.size = 1 /\ i.bytes = 1 := by
 have h : (Tryz.prog.info? 5).map (fun i => (i.zero, i.size, i.bytes)) = some (some (.int .u8 0), 1, 1) := by kernel_rfl
 obtain ⟨i, hi, g0⟩ := Option.map_eq_some_iff.1 h
 simp only [Prod.mk.injEq] at g0
 exact ⟨i, hi, g0.1, g0.2.1, g0.2.2⟩
def Buf (N : Nat) (v : Value) (l : V.Bs) (W0 w : World) : Prop := Lib.OwnBuf N 5 v l.length (bvals l) W0 w
theorem Buf.below {N : Nat} {v : Value} {l : V.Bs} {W0 w w' : World} (h : Buf N v l W0 w) (hb : Below w.heap.size w w') : Buf N v l W0 w' :=
 ⟨h.1.kept (row := none) ⟨hb.os, hb.tape, hb.output, hb.size, fun k hk _ => hb.block k hk⟩ (by cases hv : v.ownBlock <;> simp), h.2.1.trans (hb.mono h.2.2), Nat.le_trans h.2.2 hb.size⟩
theorem zo2 {ops : Array Oper} {rest : List Oper} {o : Oper} {a : Act} {w : World} {Q : Exit -> Act -> World -> Prop} (g0 : o.guard = none) (s x : Operand)
  (ho : o.op = .call { callee := .builtin .append, args := #[s, x], argTypes := #[113, 113] })
  (N : Nat) (v : Value) (l : V.Bs) (W0 : World) (hs : a.eval s = v) (hb : Buf N v l W0 w) (b cap : Nat) (m : V.Bs) (hx : a.eval x = .slice (some ⟨b, 0, none⟩) m.length cap) (hc : ∀ j u, (bvals m)[j]? = some u -> w.cell? ⟨b, j, none⟩ = some u) (hl : l.length + m.length ≤ 10000000)
  (h : ∀ v' w', Buf N v' (l ++ m) W0 w' -> wpList Tryz.prog ops Q rest (a.put o.dst v') w') : wpList Tryz.prog ops Q (o :: rest) a w := by
 obtain ⟨i, hi, hz, h1, h2⟩ := zlo
 refine wpList_append_ownF w g0 s x 113 ho N 5 i (.int .u8 0) 1 1 Tryz.underlying113 hi hz h1 h2 rfl (by decide) v l.length (bvals l) hs hb.1 ⟨b, 0, none⟩ m.length cap (bvals m) hx (by rw [zt1]; omega) ?_ ?_ (by unfold maxLen; omega) (by omega) hb.2.2 ?_
 ·intro j u hj
  have := hc j u hj
  rw [Addr.add_mid, Nat.zero_add]
  exact this
 ·intro u hu
  unfold bvals at hu
  obtain ⟨c, _, rfl⟩ := List.mem_map.1 hu
  rfl
 ·intro v' w' g1 hg _
  refine h v' w' ?_
  have := hb.grown g1 hg
  rw [zq0] at this
  unfold Buf
  rw [List.length_append]
  exact this
end Go.Proofs.YtbikeahmldobkaaGreatDoor
