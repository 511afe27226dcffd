/-
  Lemmas for the law.
-/
import Derived.Test.YtiloljoancdcbaaGreatDoorC40x11
import Derived.Test.YtiloljoancdcbaaGreatDoorC40x01
import Derived.Test.YtiloljoancdcbaaGreatDoorC40x10
import Derived.Test.YtiloljoancdcbaaGreatDoorC40x02
import Derived.Test.YtiloljoancdcbaaGreatDoorC40x03
import Derived.OwnWalk
import Derived.BigRegion
import Derived.Maps.AppendAt
import Derived.Maps.RangeWalk
import Derived.StillTailTactics
set_option linter.all false
set_option maxRecDepth 100000
set_option maxHeartbeats 3200000
namespace Go.Proofs.YtiloljoancdcbaaGreatDoor
open Go.RowKit
theorem zih {s : ByteArray} (h : 1 ≤ s.size) : s.toList.isEmpty = false := by
 rw [Lib.toList_data]
 have : 0 < s.data.toList.length := by rw [zf]; omega
 cases hl : s.data.toList with
 | nil => rw [hl] at this; simp at this
 | cons => rfl
theorem zz8 {P : Prop} (h : P := by
 go_enter Tryz.func110, Tryz.ntmps110
 go_wp2
 go_ret
 exact ⟨zc HF.out.symm, zvt _ _⟩) : P := h
theorem z0x {P : Prop} (h : P := by
 go_wp2
 go_ret
 exact ⟨zc (by rw [HF.out, HS.out]; rfl), hb⟩) : P := h
theorem zb1 (n : Int) (s : ByteArray) (w : World) (hm : zg w) (hs : s.size ≤ maxLen) :
  Calls Tryz.prog 110 #[.int .i64 n, .string s] w fun e w' => e = .returned (.bool (V.valid n s.data.toList)) /\ Below w.heap.size w w' := by
 unfold maxLen at hs
 have HM := zvq hm
 clear hm
 by_cases hbad : s.size = 0 ∨ 64 < s.size
 ·have HF : Hid (V.valid n s.data.toList = false) := zvq (by
    unfold V.valid
    rw [zf]
    rcases hbad with h | h
    · rw [h]; rfl
    · have : decide (s.size ≤ 64) = false := by simp; omega
      rw [this]; simp)
  rcases hbad with h0 | h64
  ·have he : s = ⟨#[]⟩ := jj (by
     have : s.data.toList = [] := List.eq_nil_of_length_eq_zero (by rw [zf]; exact h0)
     rw [this])
   subst he
   exact zz8
  ·have hne : s.toList.isEmpty = false := zih (by omega)
   have hne' : ¬ s.toList = [] := by simpa using hne
   exact zz8
 ·have h1 : 1 ≤ s.size := by omega
  have h2 : s.size ≤ 64 := by omega
  have HF : Hid (V.valid n s.data.toList = V.yz n s.data.toList) := zvq (by
    unfold V.valid
    rw [zf]
    simp [h1, h2])
  have hne : s.toList.isEmpty = false := zih h1
  have hne' : ¬ s.toList = [] := by simpa using hne
  have hle64 : (s.size : Int) ≤ 64 := by omega
  clear hbad
  by_cases n1 : n = 1
  ·subst n1
   have HS : Hid (V.yz 1 s.data.toList = (V.zo s.data.toList).isSome) := zvq rfl
   go_enter Tryz.func110, Tryz.ntmps110
   go_wp2_with fail
   refine (zdw s _ HM.out (by omega)).mono ?_
   rintro e w1 ⟨hb, he⟩
   rcases hp : V.zo s.data.toList with _ | ⟨l, ids⟩
   ·rw [hp] at he HS
    subst he
    exact z0x
   ·rw [hp] at he HS
    obtain ⟨v, u, rfl, _, _⟩ := he
    exact z0x
  ·by_cases n2 : n = 2
   ·subst n2
    have HS : Hid (V.yz 2 s.data.toList = (V.zr s.data.toList).isSome) := zvq rfl
    go_enter Tryz.func110, Tryz.ntmps110
    go_wp2_with fail
    refine (zea s _ HM.out (by omega)).mono ?_
    rintro e w1 ⟨hb, he⟩
    rcases hp : V.zr s.data.toList with _ | ⟨E, U, R⟩
    ·rw [hp] at he HS
     subst he
     exact z0x
    ·rw [hp] at he HS
     obtain ⟨v, rfl, _⟩ := he
     exact z0x
   ·by_cases n3 : n = 3
    ·subst n3
     have HS : Hid (V.yz 3 s.data.toList = (V.zd 46 s.data.toList).all fun x => V.numb x false) := zvq rfl
     go_enter Tryz.func110, Tryz.ntmps110
     go_wp2_with fail
     refine (kn s 46 _ HM.out (by omega)).mono ?_
     rintro e w4 ⟨rfl, hw4⟩
     have hle := jm 46 s.data.toList
     have hmem := zvq (kb 46 s.data.toList)
     rw [zf] at hle hmem
     obtain ⟨L0, hL0⟩ : ∃ L0, V.zd 46 s.data.toList = L0 := ⟨_, rfl⟩
     rw [hL0] at hw4 hle hmem HS ⊢
     have hcs := zvq (ve hw4)
     have HB4 : Hid (Below w.heap.size w w4) := zvq (by rw [hw4]; exact (zvt _ _).alloc (zvs _) _)
     clear hw4 hL0
     have hnd : ∀ x : V.Bs, V.numb x false = V.digits x := fun x => by unfold V.numb; simp
     have HND := zvq hnd
     clear hnd
     go_wp2
     go_loop [11] (fun i => ∃ k : Nat, k ≤ L0.length /\ i = .int .i64 k /\ (L0.take k).all (fun x => V.numb x false) = true) (fun i => L0.length - (intOf i).toNat)
     case atStart => exact ⟨0, Nat.zero_le _, rfl, rfl⟩
     case round =>
      obtain ⟨k, hk, rfl, hp⟩ := hrel
      have HQ := zvq hp
      clear hp
      by_cases hlt : k < L0.length
      ·have hc := hcs.out k hlt
       have hsz : L0[k].length ≤ s.size := hmem.out _ (List.getElem_mem hlt)
       have HT := zvq (zed (p := fun x => V.numb x false) hlt)
       rcases hpk : V.digits L0[k] with _ | _
       all_goals
        have HPK := zvq hpk
        clear hpk
        go_wp2_with fail
        refine (qm ⟨L0[k].toArray⟩ _ (by show L0[k].length ≤ _; unfold maxLen; omega)).mono ?_
        rintro e w' ⟨rfl, rfl⟩
        simp only [HPK.out]
        go_wp2
       ·go_ret
        exact ⟨zc (by rw [HF.out, HS.out, zpp (k := k) hlt (by show V.numb _ false = false; rw [HND.out]; exact HPK.out)]), HB4.out⟩
       ·go_round
        case rel => exact ⟨k + 1, by omega, by go_num, by rw [HT.out, HQ.out, HND.out]; exact HPK.out⟩
        case measure => simp [intOf]; omega
      ·have ht : L0.take k = L0 := List.take_of_length_le (by omega)
       rw [ht] at HQ
       clear ht
       go_wp2
       go_ret
       exact ⟨zc (by rw [HF.out, HS.out]; exact HQ.out.symm), HB4.out⟩
    ·have HS : Hid (V.yz n s.data.toList = false) := zvq (by unfold V.yz; simp [n1, n2, n3])
     have b1 : (n == 1) = false := by simpa using n1
     have b2 : (n == 2) = false := by simpa using n2
     have b3 : (n == 3) = false := by simpa using n3
     go_enter Tryz.func110, Tryz.ntmps110
     go_wp2
     go_ret
     exact ⟨zc (by rw [HF.out, HS.out]), zvt _ _⟩
theorem zl8 (x y : V.Bs) (w : World) (hx : x.length ≤ 1000) (hy : y.length ≤ 1000) :
  Calls Tryz.prog 167 #[.string ⟨x.toArray⟩, .string ⟨y.toArray⟩] w fun e w' => e = .returned (.int .i64 (V.ki x y)) /\ w' = w := by
 have h := ziz ⟨x.toArray⟩ ⟨y.toArray⟩ w (by show x.length ≤ _; unfold maxLen; omega) (by show y.length ≤ _; unfold maxLen; omega)
 simp only  at h
 exact h.mono fun _ _ h => ⟨h.1, h.2.symm⟩
theorem zn4 {s : V.Bs} {l pre : List V.Bs} (h : V.zo s = some (l, pre)) : l.length = 3 := by
 unfold V.zo at h
 split at h
 ·cases h
 ·rename_i hn
  split at h
  ·simp only [Option.some.injEq, Prod.mk.injEq] at h
   obtain ⟨rfl, _⟩ := h
   simp only [Bool.or_eq_true, not_or] at hn
   simpa using hn.2
  ·cases h
theorem ztr {s : V.Bs} {l pre : List V.Bs} (h : V.zo s = some (l, pre)) : pre.length ≤ s.length + 1 := by
 unfold V.zo at h
 split at h
 ·cases h
 ·split at h
  ·simp only [Option.some.injEq, Prod.mk.injEq] at h
   obtain ⟨_, h⟩ := h
   have h1 := V.zgl 43 s
   have h2 := V.zgl 45 (V.cut1 43 s).1
   have h3 := jm 46 (V.cut1 45 (V.cut1 43 s).1).2.1
   split at h
   ·subst h; omega
   ·subst h; simp
  ·cases h
theorem sem_hit (x y : List V.Bs × List V.Bs) (k : Nat) (hk : k < 3) (h : ∀ j, j < k -> V.numbers (x.1.getD j []) (y.1.getD j []) = 0) (h0 : V.numbers (x.1.getD k []) (y.1.getD k []) ≠ 0) :
  V.jq x y = V.numbers (x.1.getD k []) (y.1.getD k []) := by
 have h3 : k = 0 ∨ k = 1 ∨ k = 2 := by omega
 unfold V.jq
 rcases h3 with rfl | rfl | rfl
 ·simp only [V.orI, V.kh h0]
 ·simp only [V.orI, h 0 (by omega), V.vv, V.kh h0]
 ·simp only [V.orI, h 0 (by omega), h 1 (by omega), V.vv, V.kh h0]
theorem sem_zero (x y : List V.Bs × List V.Bs) (h : ∀ j, j < 3 -> V.numbers (x.1.getD j []) (y.1.getD j []) = 0) : V.jq x y = V.zdd x.2 y.2 := by
 unfold V.jq
 simp only [V.orI, h 0 (by omega), h 1 (by omega), h 2 (by omega), V.vv]
theorem zn6 {r : Option (List V.Bs × List V.Bs)} {l pre : List V.Bs} {w : World} {e : Ending} {w' : World} (h : RSem r w e w') (hr : r = some (l, pre)) (h3 : l.length = 3) :
  ∃ b off cap a c, e = .returned (.tuple #[.slice (some ⟨b, off, none⟩) 3 cap, .slice a pre.length c, .bool true]) /\ b < w'.heap.size /\ (∀ j, j < 3 -> w'.cell? ⟨b, off + j, none⟩ = some (.string ⟨(l.getD j []).toArray⟩)) /\
   Strs w' (.slice a pre.length c) pre /\ Below w.heap.size w w' := by
 subst hr
 obtain ⟨hb, v, u, rfl, hs, hu⟩ := h
 obtain ⟨b, off, cap, rfl, hlt, hc⟩ := hs.head (by omega)
 have hu' := hu
 obtain ⟨a, c, rfl⟩ := hu.slice
 rw [h3] at hc
 exact ⟨b, off, cap, a, c, by rw [h3], hlt, hc, hu', hb⟩
theorem zz5 {P : Prop} (h : P := by
 go_wp2_with fail
 refine (zhm _ _).mono ?_
 rintro e w' ⟨rfl, rfl⟩
 go_wp2
 go_ret
 exact ⟨zn HR.out.symm, HB2.out.trans (HB.out.mono HB2.out.size)⟩) : P := h
theorem zl5 (s t : ByteArray) (la pa lb pb : List V.Bs) (w : World) (hm : zg w) (hs : s.size ≤ 64) (ht : t.size ≤ 64)
  (hp : V.zo s.data.toList = some (la, pa)) (hq : V.zo t.data.toList = some (lb, pb)) :
  Calls Tryz.prog 139 #[.string s, .string t] w fun e w' => e = .returned (.int .i64 (V.jq (la, pa) (lb, pb))) /\ Below w.heap.size w w' := by
 have fa := V.vt hp
 have fb := V.vt hq
 have na := ztr hp
 have nb := ztr hq
 rw [zf] at fa fb na nb
 have GA : Hid (∀ j, (la.getD j []).length ≤ 64) := zvq (fun j => by have := V.zeo fa.1 j; omega)
 have GB : Hid (∀ j, (lb.getD j []).length ≤ 64) := zvq (fun j => by have := V.zeo fb.1 j; omega)
 have IA : Hid (∀ j, (pa.getD j []).length ≤ 64) := zvq (fun j => by have := V.zeo (fun x hx => (fa.2 x hx).1) j; omega)
 have IB : Hid (∀ j, (pb.getD j []).length ≤ 64) := zvq (fun j => by have := V.zeo (fun x hx => (fb.2 x hx).1) j; omega)
 have hpa : pa.length ≤ 65 := by omega
 have hpb : pb.length ≤ 65 := by omega
 have T1 := zvq (zn4 hp)
 have T2 := zvq (zn4 hq)
 have HP := zvq hp
 have HQ := zvq hq
 have HM := zvq hm
 clear hp hq hm fa fb na nb
 go_enter Tryz.func139, Tryz.ntmps139
 go_wp2_with fail
 refine (zdw s _ HM.out (by omega)).mono ?_
 rintro e w1 h
 obtain ⟨b1, o1, cap1, a3, c3, rfl, lt1, hc1, hs1, hb1⟩ := zn6 h HP.out T1.out
 have hm1 := HM.out.below hb1
 have HB1 := zvq hb1
 have HC1 := zvq hc1
 have HS1 := zvq hs1
 clear h hb1 hc1 hs1
 go_wp2_with fail
 refine (zdw t _ hm1 (by omega)).mono ?_
 rintro e w2 h
 obtain ⟨b2, o2, cap2, a4, c4, rfl, lt2, hc2, hs2, hb2⟩ := zn6 h HQ.out T2.out
 have lt1' : b1 < w2.heap.size := Nat.lt_of_lt_of_le lt1 hb2.size
 have HC1' : Hid (∀ j, j < 3 -> w2.cell? ⟨b1, o1 + j, none⟩ = some (.string ⟨(la.getD j []).toArray⟩)) := zvq (fun j hj => (hb2.cell (p := ⟨b1, o1 + j, none⟩) lt1).trans (HC1.out j hj))
 have HC2 := zvq hc2
 have HS1' := zvq (HS1.out.below hb2)
 have HS2 := zvq hs2
 have HB2 := zvr HB1 hb2
 clear h hb2 hc2 hs2 HC1 HS1 hm1 lt1
 go_wp2
 go_loopw [11] (fun i wr => ∃ k : Nat, k ≤ 3 /\ i = .int .i64 k /\ (∀ j, j < k -> V.numbers (la.getD j []) (lb.getD j []) = 0) /\ Below w2.heap.size w2 wr) (fun i _ => 3 - (intOf i).toNat)
 case atStart => exact ⟨0, Nat.zero_le _, rfl, fun j hj => by omega, zvt _ _⟩
 case round =>
  obtain ⟨k, hk, rfl, hz, hB⟩ := hrel
  have HZ := zvq hz
  have HB := zvq hB
  clear hz hB
  by_cases hlt : k < 3
  ·have hx := (HB.out.cell (p := ⟨b1, o1 + k, none⟩) lt1').trans (HC1'.out k hlt)
   have hy := (HB.out.cell (p := ⟨b2, o2 + k, none⟩) lt2).trans (HC2.out k hlt)
   have hlx := GA.out k
   have hly := GB.out k
   have HHIT := zvq (sem_hit (la, pa) (lb, pb) k hlt HZ.out)
   have HNEXT : Hid (V.numbers (la.getD k []) (lb.getD k []) = 0 -> ∀ j, j < k + 1 -> V.numbers (la.getD j []) (lb.getD j []) = 0) := zvq (fun h0 j hj => by
     by_cases e : j = k
     · subst e; exact h0
     · exact HZ.out j (by omega))
   simp only at HHIT
   generalize la.getD k [] = x at *
   generalize lb.getD k [] = y at *
   go_wp2
   go_quiet ((go_at_call 166; exact Calls.quiet_of_same (zd3 x y _ (by omega) (by omega))))
   rename_i nq
   have HB5 := zvq (below_drewN HB.out nq)
   clear hx hy
   generalize wr.drewN nq = W at *
   by_cases h0 : V.numbers x y = 0
   ·have HN := zvq (HNEXT.out h0)
    rw [h0]
    clear h0
    go_wp2
    go_roundw
    case rel => exact ⟨k + 1, by omega, by go_num, HN.out, HB5.out⟩
    case measure => simp [intOf]; omega
   ·have HR : Hid (V.jq (la, pa) (lb, pb) = V.numbers x y) := zvq (HHIT.out h0)
    have hb : (V.numbers x y != 0) = true := by simpa using h0
    generalize V.numbers x y = c at *
    clear h0
    go_wp2
    go_ret
    exact ⟨zn HR.out.symm, HB2.out.trans (HB5.out.mono HB2.out.size)⟩
  ·obtain rfl : k = 3 := by omega
   have HF : Hid (V.jq (la, pa) (lb, pb) = V.zdd pa pb) := zvq (sem_zero _ _ HZ.out)
   have hP : Hid (V.zdd pa pb = if pa.isEmpty || pb.isEmpty then Lib.compareInt pb.length pa.length else V.ji V.ki pa pb) := rfl
   have HBE := zvq (HB2.out.trans (HB.out.mono HB2.out.size))
   clear hlt
   by_cases h1 : pa.length = 0
   ·have b1e : ((pa.length : Int) == 0) = true := by rw [h1]; rfl
    have b1g : ¬ (0 < pa.length) := by omega
    have HF3 : Hid (V.jq (la, pa) (lb, pb) = Lib.compareInt pb.length 0) := zvq (by
      rw [HF.out, hP.out, if_pos (by rw [List.eq_nil_of_length_eq_zero h1]; rfl), h1]; rfl)
    clear h1
    by_cases h2 : 0 < pb.length
    ·have HF4 : Hid (V.jq (la, pa) (lb, pb) = 1) := zvq (by
       rw [HF3.out]; unfold Lib.compareInt; rw [if_neg (by omega), if_pos (by omega)])
     go_wp2
     go_ret
     exact ⟨zn HF4.out.symm, HBE.out⟩
    ·have HF4 : Hid (V.jq (la, pa) (lb, pb) = 0) := zvq (by
       rw [HF3.out]; unfold Lib.compareInt; rw [if_neg (by omega), if_neg (by omega)])
     go_wp2
     go_ret
     exact ⟨zn HF4.out.symm, HBE.out⟩
   ·have b1e : ((pa.length : Int) == 0) = false := by rw [zvu]; omega
    have b1g : 0 < pa.length := by omega
    by_cases h2 : pb.length = 0
    ·have b2e : ((pb.length : Int) == 0) = true := by rw [h2]; rfl
     have HF4 : Hid (V.jq (la, pa) (lb, pb) = -1) := zvq (by
       rw [HF.out, hP.out, if_pos (by rw [List.eq_nil_of_length_eq_zero h2]; simp), h2]; unfold Lib.compareInt; rw [if_pos (by simp; omega)])
     clear h1 h2
     go_wp2
     go_ret
     exact ⟨zn HF4.out.symm, HBE.out⟩
    ·have b2e : ((pb.length : Int) == 0) = false := by rw [zvu]; omega
     have b2g : 0 < pb.length := by omega
     have HF3 : Hid (V.jq (la, pa) (lb, pb) = V.ji V.ki pa pb) := zvq (by
       rw [HF.out, hP.out, if_neg]
       cases pa <;> cases pb <;> simp at h1 h2 ⊢)
     clear h1 h2
     obtain ⟨b5, o5, e5, lt5, _⟩ := HS1'.out.at 0 b1g
     obtain ⟨b6, o6, e6, lt6, _⟩ := HS2.out.at 0 b2g
     have HD1 : Hid (∀ j, j < pa.length -> w2.cell? ⟨b5, o5 + j, none⟩ = some (.string ⟨(pa.getD j []).toArray⟩)) := zvq (fun j hj => by
       obtain ⟨b', o', e', _, h⟩ := HS1'.out.at j hj
       rw [e5] at e'; cases e'; exact h)
     have HD2 : Hid (∀ j, j < pb.length -> w2.cell? ⟨b6, o6 + j, none⟩ = some (.string ⟨(pb.getD j []).toArray⟩)) := zvq (fun j hj => by
       obtain ⟨b', o', e', _, h⟩ := HS2.out.at j hj
       rw [e6] at e'; cases e'; exact h)
     subst e5 e6
     clear HS1' HS2
     obtain ⟨wo, hwo⟩ : ∃ wo : World, wo = wr := ⟨_, rfl⟩
     subst hwo
     go_wp2
     go_loopw [13] (fun i wr => ∃ k : Nat, k ≤ pa.length /\ k ≤ pb.length /\ i = .int .i64 k /\ (∀ j, j < k -> V.ki (pa.getD j []) (pb.getD j []) = 0) /\ Below w2.heap.size w2 wr) (fun i _ => pa.length - (intOf i).toNat)
     case atStart => exact ⟨0, Nat.zero_le _, Nat.zero_le _, rfl, fun j hj => by omega, HB.out⟩
     case round =>
      obtain ⟨k, hk1, hk2, rfl, hz, hB⟩ := hrel
      have HZ := zvq hz
      have HB := zvq hB
      clear hz hB
      by_cases hlt1 : k < pa.length
      ·by_cases hlt2 : k < pb.length
       ·have hx := (HB.out.cell (p := ⟨b5, o5 + k, none⟩) lt5).trans (HD1.out k hlt1)
        have hy := (HB.out.cell (p := ⟨b6, o6 + k, none⟩) lt6).trans (HD2.out k hlt2)
        have hlx := IA.out k
        have hly := IB.out k
        have HHIT := zvq (zio k pa pb hlt1 hlt2 HZ.out)
        have HNEXT : Hid (V.ki (pa.getD k []) (pb.getD k []) = 0 -> ∀ j, j < k + 1 -> V.ki (pa.getD j []) (pb.getD j []) = 0) := zvq (fun h0 j hj => by
          by_cases e : j = k
          · subst e; exact h0
          · exact HZ.out j (by omega))
        generalize pa.getD k [] = x at *
        generalize pb.getD k [] = y at *
        go_wp2
        go_quiet ((go_at_call 167; exact Calls.quiet_of_same (zl8 x y _ (by omega) (by omega))))
        rename_i nq
        have HB5 := zvq (below_drewN HB.out nq)
        clear hx hy
        generalize wr.drewN nq = W at *
        by_cases h0 : V.ki x y = 0
        ·have HN := zvq (HNEXT.out h0)
         rw [h0]
         clear h0
         go_wp2
         go_roundw
         case rel => exact ⟨k + 1, by omega, by omega, by go_num, HN.out, HB5.out⟩
         case measure => simp [intOf]; omega
        ·have HR : Hid (V.jq (la, pa) (lb, pb) = V.ki x y) := zvq (by rw [HF3.out]; exact HHIT.out h0)
         have hb : (V.ki x y != 0) = true := by simpa using h0
         generalize V.ki x y = c at *
         clear h0
         go_wp2
         go_ret
         exact ⟨zn HR.out.symm, HB2.out.trans (HB5.out.mono HB2.out.size)⟩
       ·have HR : Hid (V.jq (la, pa) (lb, pb) = V.sgn ((pa.length : Int) - pb.length)) := zvq (by
          rw [HF3.out, zf8 k pa pb hlt1 (by omega) HZ.out]; unfold V.sgn; rw [if_neg (by omega), if_pos (by omega)])
        exact zz5
      ·have HR : Hid (V.jq (la, pa) (lb, pb) = V.sgn ((pa.length : Int) - pb.length)) := zvq (by
         rw [HF3.out, zfg k pa pb (by omega) hk2 HZ.out]; unfold V.sgn
         by_cases hl : k < pb.length
         · rw [if_pos hl, if_pos (by omega)]
         · rw [if_neg hl, if_neg (by omega), if_neg (by omega)])
       exact zz5
theorem zb9 (n : Int) (w : World) :
  Calls Tryz.prog 71 #[.int .i64 n] w fun e w' => e = .returned (.bool (V.scheme n)) /\ w = w' := by
 have hs : V.scheme n = (decide (1 ≤ n) && decide (n ≤ 3)) := by
  rw [Bool.eq_iff_iff]; unfold V.scheme; simp; omega
 have HS := zvq hs
 clear hs
 go_enter Tryz.func71, Tryz.ntmps71
 go_wp2
 all_goals go_ret
 all_goals exact ⟨zc (by rw [HS.out]; simp_all; try omega), rfl⟩
theorem zzq {P : Prop} (h : P := by
 rintro e w1 ⟨rfl, hb⟩
 have HB := zvq hb
 clear hb
 go_wp2
 go_ret
 exact ⟨zn HC.out.symm, HB.out⟩) : P := h
theorem zs0 (n : Int) (s t : ByteArray) (w : World) (hm : zg w) (hn : V.scheme n = true) (hs : V.valid n s.data.toList = true) (ht : V.valid n t.data.toList = true) :
  Calls Tryz.prog 111 #[.int .i64 n, .string s, .string t] w fun e w' => e = .returned (.int .i64 (V.cmpV n s.data.toList t.data.toList)) /\ Below w.heap.size w w' := by
 have l1 := V.vg hs
 have l2 := V.vg ht
 rw [zf] at l1 l2
 have HM := zvq hm
 have h3 : n = 1 ∨ n = 2 ∨ n = 3 := by unfold V.scheme at hn; simpa [or_assoc] using hn
 rcases h3 with rfl | rfl | rfl
 ·obtain ⟨⟨la, pa⟩, e1⟩ := Option.isSome_iff_exists.1 (show (V.zo s.data.toList).isSome = true by unfold V.valid V.yz at hs; simp at hs; exact hs.2)
  obtain ⟨⟨lb, pb⟩, e2⟩ := Option.isSome_iff_exists.1 (show (V.zo t.data.toList).isSome = true by unfold V.valid V.yz at ht; simp at ht; exact ht.2)
  have HC : Hid (V.cmpV 1 s.data.toList t.data.toList = V.jq (la, pa) (lb, pb)) := zvq (by unfold V.cmpV; rw [if_pos rfl, e1, e2])
  have E1 := zvq e1
  have E2 := zvq e2
  clear e1 e2 hs ht hm hn
  go_enter Tryz.func111, Tryz.ntmps111
  go_wp2_with fail
  refine (zl5 s t la pa lb pb _ HM.out l1 l2 E1.out E2.out).mono ?_
  exact zzq
 ·obtain ⟨⟨x0, x1, x2⟩, e1⟩ := Option.isSome_iff_exists.1 (show (V.zr s.data.toList).isSome = true by unfold V.valid V.yz at hs; simp at hs; exact hs.2)
  obtain ⟨⟨y0, y1, y2⟩, e2⟩ := Option.isSome_iff_exists.1 (show (V.zr t.data.toList).isSome = true by unfold V.valid V.yz at ht; simp at ht; exact ht.2)
  have HC : Hid (V.cmpV 2 s.data.toList t.data.toList = V.vk (x0, x1, x2) (y0, y1, y2)) := zvq (by unfold V.cmpV; rw [if_neg (by decide), if_pos rfl, e1, e2])
  have E1 := zvq e1
  have E2 := zvq e2
  clear e1 e2 hs ht hm hn
  go_enter Tryz.func111, Tryz.ntmps111
  go_wp2_with fail
  refine (zmh s t x0 x1 x2 y0 y1 y2 _ HM.out l1 l2 E1.out E2.out).mono ?_
  exact zzq
 ·have HC : Hid (V.cmpV 3 s.data.toList t.data.toList = V.zbq s.data.toList t.data.toList) := zvq (by unfold V.cmpV; rw [if_neg (by decide), if_neg (by decide)])
  clear hs ht hm hn
  go_enter Tryz.func111, Tryz.ntmps111
  go_wp2_with fail
  refine (zrg s t _ HM.out l1 l2).mono ?_
  exact zzq
open Go.RowKit
theorem zsi (n : Int) (s t : ByteArray) (c k : Int) (h : V.qt n s.data.toList t.data.toList = (c, k)) (w : World) (hm : zg w) (hs : s.size ≤ maxLen) (ht : t.size ≤ maxLen) :
  Calls Tryz.prog 118 #[.int .i64 n, .string s, .string t] w fun e w' => e = .returned (.tuple #[.int .i64 c, .int .i64 k]) /\ Below w.heap.size w w' := by
 have := zrq n s t w hm hs ht
 rw [h] at this
 exact this
open Go.RowKit
def Tape (w : World) (b k : Nat) : Prop :=
 ∃ (a : Option Addr) (m cap p : Nat), w.cell? ⟨b, 0, none⟩ = some (.slice a m cap) /\ w.cell? ⟨b, 1, none⟩ = some (.int .i64 p) /\ p ≤ k /\ m ≤ maxLen /\
  w.frozen? ⟨b, 1, none⟩ = false /\
  ∀ j, j < m -> ∃ b' off x, a = some ⟨b', off, none⟩ /\ b' < w.heap.size /\ b' < b /\ w.cell? ⟨b', off + j, none⟩ = some (.int .i64 x) /\ (Lit.int .i64 x).wf = true
theorem Tape.lt {w : World} {b k : Nat} (h : Tape w b k) : b < w.heap.size := by
 obtain ⟨a, m, cap, p, c0, _⟩ := h
 exact World.block_lt_of_cell? _ _ c0
theorem Tape.grown {w w' : World} {b k : Nat} {row : Option Nat} (h : Tape w b k) (hg : w.grownBy w' row) (hb : row ≠ some b) (hr : ∀ b', row = some b' -> b < b') : Tape w' b k := by
 obtain ⟨a, m, cap, p, c0, c1, hp, hm, hf, hx⟩ := h
 have hlt := World.block_lt_of_cell? _ _ c0
 refine ⟨a, m, cap, p, hg.cell c0 (fun e => hb e.symm), hg.cell c1 (fun e => hb e.symm), hp, hm, ?_, fun j hj => ?_⟩
 ·rw [World.frozen?_of_block (w := w) (hg.block b hlt (fun e => hb e.symm))]; exact hf
 ·obtain ⟨b', off, x, rfl, h1, h2, h3, h4⟩ := hx j hj
  exact ⟨b', off, x, rfl, Nat.lt_of_lt_of_le h1 hg.size, h2, hg.cell h3 (fun e => by have := hr b' e.symm; omega), h4⟩
theorem Tape.below {w w' : World} {b k : Nat} (h : Tape w b k) (hb : Below w.heap.size w w') : Tape w' b k := by
 obtain ⟨a, m, cap, p, c0, c1, hp, hm, hf, hx⟩ := h
 have hlt := World.block_lt_of_cell? _ _ c0
 refine ⟨a, m, cap, p, (hb.cell (p := ⟨b, 0, none⟩) hlt).trans c0, (hb.cell (p := ⟨b, 1, none⟩) hlt).trans c1, hp, hm, (hb.frozen (p := ⟨b, 1, none⟩) hlt).trans hf, fun j hj => ?_⟩
 obtain ⟨b', off, x, rfl, h1, h2, h3, h4⟩ := hx j hj
 exact ⟨b', off, x, rfl, Nat.lt_of_lt_of_le h1 hb.size, h2, (hb.cell (p := ⟨b', off + j, none⟩) h1).trans h3, h4⟩
theorem Tape.le {w : World} {b k k' : Nat} (h : Tape w b k) (hk : k ≤ k') : Tape w b k' := by
 obtain ⟨a, m, cap, p, c0, c1, hp, rest⟩ := h
 exact ⟨a, m, cap, p, c0, c1, Nat.le_trans hp hk, rest⟩
theorem zp6 (w : World) (n : Nat) (row : Option Nat) : w.grownBy (w.drewN n) row :=
 have h := below_drewN (zvt w.heap.size w) n
 ⟨h.os, h.tape, h.output, h.size, fun k hk _ => h.block k hk⟩
theorem zbf (w : World) (b o : Nat) (u : Value) : w.grownBy (w.setCell ⟨b, o, none⟩ u) (some b) :=
 ⟨rfl, rfl, rfl, by simp [World.setCell], fun k _ hk => Below.heap_setCell _ _ _ _ (fun e => hk (by rw [e]))⟩
theorem km {w w' : World} {b B : Nat} (h : w.grownBy w' (some b)) (hb : B ≤ b) (hB : B ≤ w.heap.size) : Below B w w' :=
 ⟨h.os, h.tape, h.output, h.size, fun k hk => h.block k (by omega) (fun e => by cases e; omega)⟩
theorem Tape.step {w : World} {b k : Nat} {a : Option Addr} {m cap p : Nat} {u : Nat} (c0 : w.cell? ⟨b, 0, none⟩ = some (.slice a m cap)) (c1 : w.cell? ⟨b, 1, none⟩ = some (.int .i64 p)) (hp : p ≤ k) (hm : m ≤ maxLen) (hf : w.frozen? ⟨b, 1, none⟩ = false)
  (hx : ∀ j, j < m -> ∃ b' off x, a = some ⟨b', off, none⟩ /\ b' < w.heap.size /\ b' < b /\ w.cell? ⟨b', off + j, none⟩ = some (.int .i64 x) /\ (Lit.int .i64 x).wf = true) (hu : u = p + 1) :
  Tape (w.setCell ⟨b, 1, none⟩ (.int .i64 (u : Int))) b (k + 1) := by
 subst hu
 have e : ∀ (b' o : Nat), b' ≠ b -> (w.setCell ⟨b, 1, none⟩ (.int .i64 ((p + 1 : Nat) : Int))).cell? ⟨b', o, none⟩ = w.cell? ⟨b', o, none⟩ := fun b' o hne =>
  World.cell?_setCell_other _ _ _ _ (by intro e; injection e with e; exact hne e.symm)
 refine ⟨a, m, cap, p + 1, ?_, ?_, by omega, hm, ?_, fun j hj => ?_⟩
 ·rw [World.cell?_setCell_other _ _ _ _ (by intro e; injection e with _ e; exact absurd e (by decide))]; exact c0
 ·rw [World.cell?_setCell_same _ _ _ c1]
 ·simp only [World.frozen?_setCell]; exact hf
 ·obtain ⟨b', off, x, rfl, h1, h2, h3, h4⟩ := hx j hj
  exact ⟨b', off, x, rfl, by simpa [World.setCell] using h1, h2, by rw [e _ _ (Nat.ne_of_lt h2)]; exact h3, h4⟩
def zks (b k : Nat) (n : Int) (w : World) (e : Ending) (w' : World) : Prop :=
 ∃ r : Nat, (r : Int) < n /\ e = .returned (.int .i64 r) /\ Tape w' b (k + 1) /\ w.grownBy w' (some b)
theorem zfz (x n : Int) (h : 1 ≤ n) : -n < x.tmod n /\ x.tmod n < n /\ 0 ≤ x.tmod n + n /\ 0 ≤ (x.tmod n + n) % n /\ (x.tmod n + n) % n < n := by
 have h1 := Int.lt_tmod_of_pos x (show (0 : Int) < n by omega)
 have h2 := Int.tmod_lt_of_pos x (show (0 : Int) < n by omega)
 exact ⟨by omega, h2, by omega, Int.emod_nonneg _ (by omega), Int.emod_lt_of_pos _ (by omega)⟩
theorem zgf {w W : World} {b k : Nat} {n v : Int} {a : Option Addr} {m cap p : Nat} (hW : ∃ i, W = w.drewN i) (c0 : w.cell? ⟨b, 0, none⟩ = some (.slice a m cap)) (c1 : w.cell? ⟨b, 1, none⟩ = some (.int .i64 p)) (hp : p ≤ k) (hm : m ≤ maxLen) (hf : w.frozen? ⟨b, 1, none⟩ = false)
  (hx : ∀ j, j < m -> ∃ b' off x, a = some ⟨b', off, none⟩ /\ b' < w.heap.size /\ b' < b /\ w.cell? ⟨b', off + j, none⟩ = some (.int .i64 x) /\ (Lit.int .i64 x).wf = true) (h0 : 0 ≤ v) (hv : v < n) :
  zks b k n w (.returned (.int .i64 v)) (W.setCell ⟨b, 1, none⟩ (.int .i64 ((p : Int) + 1))) := by
 obtain ⟨i, rfl⟩ := hW
 have hg : w.grownBy (w.drewN i) none := zp6 w i none
 have hlt := World.block_lt_of_cell? _ _ c0
 refine ⟨v.toNat, by omega, by rw [Int.toNat_of_nonneg h0], ?_, World.grownBy.trans (World.grownBy.but hg _) (zbf _ _ _ _)⟩
 refine Tape.step (w := w.drewN i) (hg.cell c0 (by simp)) (hg.cell c1 (by simp)) hp hm ?_ (fun l hl => ?_) rfl
 ·rw [World.frozen?_of_block (w := w) (hg.block b hlt (by simp))]; exact hf
 ·obtain ⟨b', off, x, e, h1, h2, h3, h4⟩ := hx l hl
  exact ⟨b', off, x, e, Nat.lt_of_lt_of_le h1 hg.size, h2, hg.cell h3 (by simp), h4⟩
theorem zxq {P : Prop} (h : P := by
 obtain ⟨b', off, x, rfl, hb', hne, hc, hwf⟩ := HX.out p hlt
 have hzb : -9223372036854775808 ≤ x /\ x ≤ 9223372036854775807 := by simpa [Lit.wf, IntKind.min, IntKind.max, IntKind.signed, IntKind.bits] using hwf
 obtain ⟨hz1, hz2⟩ := hzb
 obtain ⟨t1, t2, t3, t4, t5⟩ := zfz x n h1
 clear hwf
 go_enter Tryz.func19, Tryz.ntmps19
 go_wp2
 go_quiet (fail)
 go_wp2
 go_quiet (fail)
 go_wp2
 go_ret
 exact zgf ⟨_, rfl⟩ c0 c1 hp hm hf HX.out t4 t5) : P := h
theorem zxt {P : Prop} (h : P := by
 obtain ⟨t1, t2, t3, t4, t5⟩ := zfz ((p : Int) * 7 + 3) n h1
 have t6 : 0 ≤ ((p : Int) * 7 + 3) % n := Int.emod_nonneg _ (by omega)
 have t7 : ((p : Int) * 7 + 3) % n < n := Int.emod_lt_of_pos _ (by omega)
 go_enter Tryz.func19, Tryz.ntmps19
 go_wp2
 go_quiet (fail)
 go_wp2
 go_ret
 exact zgf ⟨_, rfl⟩ c0 c1 hp hm hf HX.out (Int.emod_nonneg _ (by omega)) (Int.emod_lt_of_pos _ (by omega))) : P := h
theorem zj3 (b k : Nat) (n : Int) (w : World) (h : Tape w b k) (hk : k ≤ 1000000000) (h1 : 1 ≤ n) (h2 : n ≤ 1000000000) :
  Calls Tryz.prog 19 #[.pointer (some ⟨b, 0, none⟩), .int .i64 n] w (zks b k n w) := by
 obtain ⟨a, m, cap, p, c0, c1, hp, hm, hf, hx⟩ := h
 have HX := zvq hx
 have hz := World.block_lt_of_cell? _ _ c0
 unfold maxLen at hm
 clear hx
 by_cases hlt : p < m
 ·exact zxq
 ·exact zxt
open Go.RowKit
def PickPost (b k : Nat) (l : List V.Bs) (w : World) (e : Ending) (w' : World) : Prop :=
 ∃ x, x ∈ l /\ e = .returned (.string ⟨x.toArray⟩) /\ Tape w' b (k + 1) /\ w.grownBy w' (some b)
theorem pick_any (b k : Nat) (w : World) (a : Addr) (cap : Nat) (l : List V.Bs) (h : Tape w b k) (hk : k ≤ 1000000) (hl : 0 < l.length) (hl2 : l.length ≤ 1000) (hab : a.block ≠ b) (hs : a.spot = none)
  (hc : ∀ j, j < l.length -> w.cell? ⟨a.block, a.off + j, none⟩ = some (.string ⟨(l.getD j []).toArray⟩)) :
  Calls Tryz.prog 17 #[.pointer (some ⟨b, 0, none⟩), .slice (some a) l.length cap] w (PickPost b k l w) := by
 have HC := zvq hc
 have HT := zvq h
 have HAB := zvq hab
 obtain ⟨ab, ao, asp⟩ := a
 simp only at hs
 subst hs
 clear hc h hab
 go_enter Tryz.func17, Tryz.ntmps17
 go_wp2_with fail
 refine (zj3 b k l.length _ HT.out (by omega) (by omega) (by omega)).mono ?_
 rintro e w1 ⟨r, hr, rfl, ht1, hg1⟩
 have hrl : r < l.length := by omega
 have hcell := hg1.cell (HC.out r hrl) (by intro e; cases e; exact HAB.out rfl)
 have HT1 := zvq ht1
 have HG1 := zvq hg1
 have HMem : Hid (l.getD r [] ∈ l) := zvq (by rw [List.getD_eq_getElem?_getD, List.getElem?_eq_getElem hrl]; exact List.getElem_mem _)
 clear ht1 hg1 hr
 generalize l.getD r [] = x at *
 go_wp2
 go_ret
 exact ⟨x, HMem.out, rfl, HT1.out, HG1.out⟩
def Nums (w : World) (a : Option Addr) (m : Nat) : Prop :=
 m ≤ maxLen /\ ∀ j, j < m -> ∃ b' off x, a = some ⟨b', off, none⟩ /\ b' < w.heap.size /\ w.cell? ⟨b', off + j, none⟩ = some (.int .i64 x) /\ (Lit.int .i64 x).wf = true
theorem Tape.made {w w' : World} {a : Option Addr} {m cap b : Nat} (h : Nums w a m) (hb : Below w.heap.size w w') (hlt : w.heap.size ≤ b) (c0 : w'.cell? ⟨b, 0, none⟩ = some (.slice a m cap)) (c1 : w'.cell? ⟨b, 1, none⟩ = some (.int .i64 0)) (hf : w'.frozen? ⟨b, 1, none⟩ = false) : Tape w' b 0 := by
 obtain ⟨hm, hx⟩ := h
 refine ⟨a, m, cap, 0, c0, c1, zvs _, hm, hf, fun j hj => ?_⟩
 obtain ⟨b', off, x, rfl, h1, h2, h3⟩ := hx j hj
 exact ⟨b', off, x, rfl, Nat.lt_of_lt_of_le h1 hb.size, by omega, (hb.cell (p := ⟨b', off + j, none⟩) h1).trans h2, h3⟩
open Go.RowKit
structure ThreeInv (w : World) (n : Int) (k : Nat) (wr : World) : Prop where
 below : Below w.heap.size w wr
 size : w.heap.size + 2 < wr.heap.size
 tape : Tape wr (w.heap.size + 1) k
 out : ∃ xs : Nat -> V.Bs, (∀ j, j < 3 -> wr.cell? ⟨w.heap.size + 2, j, none⟩ = some (.string ⟨(xs j).toArray⟩)) /\ ∀ j, j < k -> V.valid n (xs j) = true
 free : ∀ j, wr.frozen? ⟨w.heap.size + 2, j, none⟩ = false
 res : ∀ j, j < 3 -> wr.cell? ⟨w.heap.size, j, none⟩ = some (.string ⟨#[]⟩)
 resfree : ∀ j, wr.frozen? ⟨w.heap.size, j, none⟩ = false
theorem ThreeInv.later {w W W1 : World} {n : Int} {k : Nat} (h : ThreeInv w n k W) (hb : Below W.heap.size W W1) : ThreeInv w n k W1 := by
 obtain ⟨h1, h2, h3, ⟨xs, h4, h5⟩, h6, h7, h8⟩ := h
 have c := fun o v (g : W.cell? ⟨w.heap.size + 2, o, none⟩ = some v) => (hb.cell (p := ⟨w.heap.size + 2, o, none⟩) h2).trans g
 exact ⟨h1.trans (hb.mono h1.size), Nat.lt_of_lt_of_le h2 hb.size, h3.below hb, ⟨xs, fun j hj => c j _ (h4 j hj), h5⟩, fun j => (hb.frozen (p := ⟨w.heap.size + 2, j, none⟩) h2).trans (h6 j),
   fun j hj => (hb.cell (p := ⟨w.heap.size, j, none⟩) (by simp; omega)).trans (h7 j hj), fun j => (hb.frozen (p := ⟨w.heap.size, j, none⟩) (by simp; omega)).trans (h8 j)⟩
theorem zzu {P : Prop} (h : P := by
 have h1 : ¬ x < y := fun g => by rw [UInt8.lt_iff_toNat_lt] at h g; omega
 have h2 : (x == y) = false := by
  rw [zvu]; intro g; subst g; simp at h
 rw [e, h2]; simp [h1]) : P := h
theorem wi : ∀ a b : V.Bs, Op.bytesLess a b = decide (V.cb a b < 0)
 | [], [] => rfl
 | [], _ :: _ => rfl
 | _ :: _, [] => rfl
 | x :: a, y :: b => by
  unfold Op.bytesLess
  rcases V.zi8 x y a b with ⟨h, e⟩ | ⟨h, e⟩ | ⟨h, e⟩
  ·rw [e]; simp [h]
  ·subst h
   have : ¬ x < x := by simp
   rw [e, ← wi a b]; simp [this]
  ·exact zzu
end Go.Proofs.YtiloljoancdcbaaGreatDoor
