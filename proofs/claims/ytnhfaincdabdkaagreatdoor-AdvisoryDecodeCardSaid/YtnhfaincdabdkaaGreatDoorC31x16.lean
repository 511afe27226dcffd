/-
  Lemmas for the law.
-/
import Derived.Test.YtnhfaincdabdkaaGreatDoorC31x11
import Derived.Test.YtnhfaincdabdkaaGreatDoorC31x01
import Derived.Test.YtnhfaincdabdkaaGreatDoorC31x08
import Derived.Test.YtnhfaincdabdkaaGreatDoorC31x02
import Derived.Test.YtnhfaincdabdkaaGreatDoorC31x03
import Derived.Test.YtnhfaincdabdkaaGreatDoorC31x10
import Derived.Test.YtnhfaincdabdkaaGreatDoorC31x06
import Derived.Test.YtnhfaincdabdkaaGreatDoorC31x15
import Derived.OwnWalk
import Derived.BigRegion
import Derived.Maps.AppendAt
import Derived.Maps.RangeWalk
import Derived.StillTailTactics
import Derived.OrdersHeld
import Derived.Lib.BufSteps
set_option linter.all false
set_option maxRecDepth 100000
set_option maxHeartbeats 3200000
namespace Go.Proofs.YtnhfaincdabdkaaGreatDoor
open Go.RowKit
theorem zh2 {s : ByteArray} (h : 1 ≤ s.size) : s.toList.isEmpty = false := by
 rw [Lib.toList_data]
 have : 0 < s.data.toList.length := by rw [zf]; omega
 cases hl : s.data.toList with
 | nil => rw [hl] at this; simp at this
 | cons => rfl
theorem zy4 {P : Prop} (h : P := by
 go_enter Tryz.func126, Tryz.ntmps126
 go_wp2
 go_ret
 exact ⟨zc HF.out.symm, zu1 _ _⟩) : P := h
theorem zzt {P : Prop} (h : P := by
 go_wp2
 go_ret
 exact ⟨zc (by rw [HF.out, HS.out]; rfl), hb⟩) : P := h
theorem zbo (n : Int) (s : ByteArray) (w : World) (hm : zg w) (hs : s.size ≤ maxLen) :
  Calls Tryz.prog 126 #[.int .i64 n, .string s] w fun e w' => e = .returned (.bool (V.valid n s.data.toList)) /\ Below w.heap.size w w' := by
 unfold maxLen at hs
 have HM := zuy hm
 clear hm
 by_cases hbad : s.size = 0 ∨ 64 < s.size
 ·have HF : Hid (V.valid n s.data.toList = false) := zuy (by
    unfold V.valid
    rw [zf]
    rcases hbad with h | h
    · rw [h]; rfl
    · have : decide (s.size ≤ 64) = false := by simp; omega
      rw [this]; simp)
  rcases hbad with h0 | h64
  ·have he : s = ⟨#[]⟩ := ji (by
     have : s.data.toList = [] := List.eq_nil_of_length_eq_zero (by rw [zf]; exact h0)
     rw [this])
   subst he
   exact zy4
  ·have hne : s.toList.isEmpty = false := zh2 (by omega)
   have hne' : ¬ s.toList = [] := by simpa using hne
   exact zy4
 ·have h1 : 1 ≤ s.size := by omega
  have h2 : s.size ≤ 64 := by omega
  have HF : Hid (V.valid n s.data.toList = V.yz n s.data.toList) := zuy (by
    unfold V.valid
    rw [zf]
    simp [h1, h2])
  have hne : s.toList.isEmpty = false := zh2 h1
  have hne' : ¬ s.toList = [] := by simpa using hne
  have hle64 : (s.size : Int) ≤ 64 := by omega
  clear hbad
  by_cases n1 : n = 1
  ·subst n1
   have HS : Hid (V.yz 1 s.data.toList = (V.zo s.data.toList).isSome) := zuy rfl
   go_enter Tryz.func126, Tryz.ntmps126
   go_wp2_with fail
   refine (zdl s _ HM.out (by omega)).mono ?_
   rintro e w1 ⟨hb, he⟩
   rcases hp : V.zo s.data.toList with _ | ⟨l, ids⟩
   ·rw [hp] at he HS
    subst he
    exact zzt
   ·rw [hp] at he HS
    obtain ⟨v, u, rfl, _, _⟩ := he
    exact zzt
  ·by_cases n2 : n = 2
   ·subst n2
    have HS : Hid (V.yz 2 s.data.toList = (V.zr s.data.toList).isSome) := zuy rfl
    go_enter Tryz.func126, Tryz.ntmps126
    go_wp2_with fail
    refine (zd1 s _ HM.out (by omega)).mono ?_
    rintro e w1 ⟨hb, he⟩
    rcases hp : V.zr s.data.toList with _ | ⟨E, U, R⟩
    ·rw [hp] at he HS
     subst he
     exact zzt
    ·rw [hp] at he HS
     obtain ⟨v, rfl, _⟩ := he
     exact zzt
   ·by_cases n3 : n = 3
    ·subst n3
     have HS : Hid (V.yz 3 s.data.toList = (V.zd 46 s.data.toList).all fun x => V.numb x false) := zuy rfl
     go_enter Tryz.func126, Tryz.ntmps126
     go_wp2_with fail
     refine (km s 46 _ HM.out (by omega)).mono ?_
     rintro e w4 ⟨rfl, hw4⟩
     have hle := jl 46 s.data.toList
     have hmem := zuy (kb 46 s.data.toList)
     rw [zf] at hle hmem
     obtain ⟨L0, hL0⟩ : ∃ L0, V.zd 46 s.data.toList = L0 := ⟨_, rfl⟩
     rw [hL0] at hw4 hle hmem HS ⊢
     have hcs := zuy (ve hw4)
     have HB4 : Hid (Below w.heap.size w w4) := zuy (by rw [hw4]; exact (zu1 _ _).alloc (zu0 _) _)
     clear hw4 hL0
     have hnd : ∀ x : V.Bs, V.numb x false = V.digits x := fun x => by unfold V.numb; simp
     have HND := zuy hnd
     clear hnd
     go_wp2
     go_loop [11] (fun i => ∃ k : Nat, k ≤ L0.length /\ i = .int .i64 k /\ (L0.take k).all (fun x => V.numb x false) = true) (fun i => L0.length - (intOf i).toNat)
     case atStart => exact ⟨0, Nat.zero_le _, rfl, rfl⟩
     case round =>
      obtain ⟨k, hk, rfl, hp⟩ := hrel
      have HQ := zuy hp
      clear hp
      by_cases hlt : k < L0.length
      ·have hc := hcs.out k hlt
       have hsz : L0[k].length ≤ s.size := hmem.out _ (List.getElem_mem hlt)
       have HT := zuy (zd4 (p := fun x => V.numb x false) hlt)
       rcases hpk : V.digits L0[k] with _ | _
       all_goals
        have HPK := zuy hpk
        clear hpk
        go_wp2_with fail
        refine (qm ⟨L0[k].toArray⟩ _ (by show L0[k].length ≤ _; unfold maxLen; omega)).mono ?_
        rintro e w' ⟨rfl, rfl⟩
        simp only [HPK.out]
        go_wp2
       ·go_ret
        exact ⟨zc (by rw [HF.out, HS.out, zo7 (k := k) hlt (by show V.numb _ false = false; rw [HND.out]; exact HPK.out)]), HB4.out⟩
       ·go_round
        case rel => exact ⟨k + 1, by omega, by go_num, by rw [HT.out, HQ.out, HND.out]; exact HPK.out⟩
        case measure => simp [intOf]; omega
      ·have ht : L0.take k = L0 := List.take_of_length_le (by omega)
       rw [ht] at HQ
       clear ht
       go_wp2
       go_ret
       exact ⟨zc (by rw [HF.out, HS.out]; exact HQ.out.symm), HB4.out⟩
    ·have HS : Hid (V.yz n s.data.toList = false) := zuy (by unfold V.yz; simp [n1, n2, n3])
     have b1 : (n == 1) = false := by simpa using n1
     have b2 : (n == 2) = false := by simpa using n2
     have b3 : (n == 3) = false := by simpa using n3
     go_enter Tryz.func126, Tryz.ntmps126
     go_wp2
     go_ret
     exact ⟨zc (by rw [HF.out, HS.out]), zu1 _ _⟩
theorem zls (x y : V.Bs) (w : World) (hx : x.length ≤ 1000) (hy : y.length ≤ 1000) :
  Calls Tryz.prog 190 #[.string ⟨x.toArray⟩, .string ⟨y.toArray⟩] w fun e w' => e = .returned (.int .i64 (V.ki x y)) /\ w' = w := by
 have h := zii ⟨x.toArray⟩ ⟨y.toArray⟩ w (by show x.length ≤ _; unfold maxLen; omega) (by show y.length ≤ _; unfold maxLen; omega)
 simp only  at h
 exact h.mono fun _ _ h => ⟨h.1, h.2.symm⟩
theorem zno {s : V.Bs} {l pre : List V.Bs} (h : V.zo s = some (l, pre)) : l.length = 3 := by
 unfold V.zo at h
 split at h
 ·cases h
 ·rename_i hn
  split at h
  ·simp only [Option.some.injEq, Prod.mk.injEq] at h
   obtain ⟨rfl, _⟩ := h
   simp only [Bool.or_eq_true, not_or] at hn
   simpa using hn.2
  ·cases h
theorem zs3 {s : V.Bs} {l pre : List V.Bs} (h : V.zo s = some (l, pre)) : pre.length ≤ s.length + 1 := by
 unfold V.zo at h
 split at h
 ·cases h
 ·split at h
  ·simp only [Option.some.injEq, Prod.mk.injEq] at h
   obtain ⟨_, h⟩ := h
   have h1 := V.zf8 43 s
   have h2 := V.zf8 45 (V.cut1 43 s).1
   have h3 := jl 46 (V.cut1 45 (V.cut1 43 s).1).2.1
   split at h
   ·subst h; omega
   ·subst h; simp
  ·cases h
theorem sem_hit (x y : List V.Bs × List V.Bs) (k : Nat) (hk : k < 3) (h : ∀ j, j < k -> V.numbers (x.1.getD j []) (y.1.getD j []) = 0) (h0 : V.numbers (x.1.getD k []) (y.1.getD k []) ≠ 0) :
  V.jq x y = V.numbers (x.1.getD k []) (y.1.getD k []) := by
 have h3 : k = 0 ∨ k = 1 ∨ k = 2 := by omega
 unfold V.jq
 rcases h3 with rfl | rfl | rfl
 ·simp only [V.orI, V.kh h0]
 ·simp only [V.orI, h 0 (by omega), V.vv, V.kh h0]
 ·simp only [V.orI, h 0 (by omega), h 1 (by omega), V.vv, V.kh h0]
theorem sem_zero (x y : List V.Bs × List V.Bs) (h : ∀ j, j < 3 -> V.numbers (x.1.getD j []) (y.1.getD j []) = 0) : V.jq x y = V.zc1 x.2 y.2 := by
 unfold V.jq
 simp only [V.orI, h 0 (by omega), h 1 (by omega), h 2 (by omega), V.vv]
theorem znq {r : Option (List V.Bs × List V.Bs)} {l pre : List V.Bs} {w : World} {e : Ending} {w' : World} (h : RSem r w e w') (hr : r = some (l, pre)) (h3 : l.length = 3) :
  ∃ b off cap a c, e = .returned (.tuple #[.slice (some ⟨b, off, none⟩) 3 cap, .slice a pre.length c, .bool true]) /\ b < w'.heap.size /\ (∀ j, j < 3 -> w'.cell? ⟨b, off + j, none⟩ = some (.string ⟨(l.getD j []).toArray⟩)) /\
   Strs w' (.slice a pre.length c) pre /\ Below w.heap.size w w' := by
 subst hr
 obtain ⟨hb, v, u, rfl, hs, hu⟩ := h
 obtain ⟨b, off, cap, rfl, hlt, hc⟩ := hs.head (by omega)
 have hu' := hu
 obtain ⟨a, c, rfl⟩ := hu.slice
 rw [h3] at hc
 exact ⟨b, off, cap, a, c, by rw [h3], hlt, hc, hu', hb⟩
theorem zy1 {P : Prop} (h : P := by
 go_wp2_with fail
 refine (zg9 _ _).mono ?_
 rintro e w' ⟨rfl, rfl⟩
 go_wp2
 go_ret
 exact ⟨zn HR.out.symm, HB2.out.trans (HB.out.mono HB2.out.size)⟩) : P := h
theorem zlp (s t : ByteArray) (la pa lb pb : List V.Bs) (w : World) (hm : zg w) (hs : s.size ≤ 64) (ht : t.size ≤ 64)
  (hp : V.zo s.data.toList = some (la, pa)) (hq : V.zo t.data.toList = some (lb, pb)) :
  Calls Tryz.prog 159 #[.string s, .string t] w fun e w' => e = .returned (.int .i64 (V.jq (la, pa) (lb, pb))) /\ Below w.heap.size w w' := by
 have fa := V.vt hp
 have fb := V.vt hq
 have na := zs3 hp
 have nb := zs3 hq
 rw [zf] at fa fb na nb
 have GA : Hid (∀ j, (la.getD j []).length ≤ 64) := zuy (fun j => by have := V.zef fa.1 j; omega)
 have GB : Hid (∀ j, (lb.getD j []).length ≤ 64) := zuy (fun j => by have := V.zef fb.1 j; omega)
 have IA : Hid (∀ j, (pa.getD j []).length ≤ 64) := zuy (fun j => by have := V.zef (fun x hx => (fa.2 x hx).1) j; omega)
 have IB : Hid (∀ j, (pb.getD j []).length ≤ 64) := zuy (fun j => by have := V.zef (fun x hx => (fb.2 x hx).1) j; omega)
 have hpa : pa.length ≤ 65 := by omega
 have hpb : pb.length ≤ 65 := by omega
 have T1 := zuy (zno hp)
 have T2 := zuy (zno hq)
 have HP := zuy hp
 have HQ := zuy hq
 have HM := zuy hm
 clear hp hq hm fa fb na nb
 go_enter Tryz.func159, Tryz.ntmps159
 go_wp2_with fail
 refine (zdl s _ HM.out (by omega)).mono ?_
 rintro e w1 h
 obtain ⟨b1, o1, cap1, a3, c3, rfl, lt1, hc1, hs1, hb1⟩ := znq h HP.out T1.out
 have hm1 := HM.out.below hb1
 have HB1 := zuy hb1
 have HC1 := zuy hc1
 have HS1 := zuy hs1
 clear h hb1 hc1 hs1
 go_wp2_with fail
 refine (zdl t _ hm1 (by omega)).mono ?_
 rintro e w2 h
 obtain ⟨b2, o2, cap2, a4, c4, rfl, lt2, hc2, hs2, hb2⟩ := znq h HQ.out T2.out
 have lt1' : b1 < w2.heap.size := Nat.lt_of_lt_of_le lt1 hb2.size
 have HC1' : Hid (∀ j, j < 3 -> w2.cell? ⟨b1, o1 + j, none⟩ = some (.string ⟨(la.getD j []).toArray⟩)) := zuy (fun j hj => (hb2.cell (p := ⟨b1, o1 + j, none⟩) lt1).trans (HC1.out j hj))
 have HC2 := zuy hc2
 have HS1' := zuy (HS1.out.below hb2)
 have HS2 := zuy hs2
 have HB2 := zuz HB1 hb2
 clear h hb2 hc2 hs2 HC1 HS1 hm1 lt1
 go_wp2
 go_loopw [11] (fun i wr => ∃ k : Nat, k ≤ 3 /\ i = .int .i64 k /\ (∀ j, j < k -> V.numbers (la.getD j []) (lb.getD j []) = 0) /\ Below w2.heap.size w2 wr) (fun i _ => 3 - (intOf i).toNat)
 case atStart => exact ⟨0, Nat.zero_le _, rfl, fun j hj => by omega, zu1 _ _⟩
 case round =>
  obtain ⟨k, hk, rfl, hz, hB⟩ := hrel
  have HZ := zuy hz
  have HB := zuy hB
  clear hz hB
  by_cases hlt : k < 3
  ·have hx := (HB.out.cell (p := ⟨b1, o1 + k, none⟩) lt1').trans (HC1'.out k hlt)
   have hy := (HB.out.cell (p := ⟨b2, o2 + k, none⟩) lt2).trans (HC2.out k hlt)
   have hlx := GA.out k
   have hly := GB.out k
   have HHIT := zuy (sem_hit (la, pa) (lb, pb) k hlt HZ.out)
   have HNEXT : Hid (V.numbers (la.getD k []) (lb.getD k []) = 0 -> ∀ j, j < k + 1 -> V.numbers (la.getD j []) (lb.getD j []) = 0) := zuy (fun h0 j hj => by
     by_cases e : j = k
     · subst e; exact h0
     · exact HZ.out j (by omega))
   simp only at HHIT
   generalize la.getD k [] = x at *
   generalize lb.getD k [] = y at *
   go_wp2
   go_quiet ((go_at_call 189; exact Calls.quiet_of_same (zdu x y _ (by omega) (by omega))))
   rename_i nq
   have HB5 := zuy (below_drewN HB.out nq)
   clear hx hy
   generalize wr.drewN nq = W at *
   by_cases h0 : V.numbers x y = 0
   ·have HN := zuy (HNEXT.out h0)
    rw [h0]
    clear h0
    go_wp2
    go_roundw
    case rel => exact ⟨k + 1, by omega, by go_num, HN.out, HB5.out⟩
    case measure => simp [intOf]; omega
   ·have HR : Hid (V.jq (la, pa) (lb, pb) = V.numbers x y) := zuy (HHIT.out h0)
    have hb : (V.numbers x y != 0) = true := by simpa using h0
    generalize V.numbers x y = c at *
    clear h0
    go_wp2
    go_ret
    exact ⟨zn HR.out.symm, HB2.out.trans (HB5.out.mono HB2.out.size)⟩
  ·obtain rfl : k = 3 := by omega
   have HF : Hid (V.jq (la, pa) (lb, pb) = V.zc1 pa pb) := zuy (sem_zero _ _ HZ.out)
   have hP : Hid (V.zc1 pa pb = if pa.isEmpty || pb.isEmpty then Lib.compareInt pb.length pa.length else V.jh V.ki pa pb) := rfl
   have HBE := zuy (HB2.out.trans (HB.out.mono HB2.out.size))
   clear hlt
   by_cases h1 : pa.length = 0
   ·have b1e : ((pa.length : Int) == 0) = true := by rw [h1]; rfl
    have b1g : ¬ (0 < pa.length) := by omega
    have HF3 : Hid (V.jq (la, pa) (lb, pb) = Lib.compareInt pb.length 0) := zuy (by
      rw [HF.out, hP.out, if_pos (by rw [List.eq_nil_of_length_eq_zero h1]; rfl), h1]; rfl)
    clear h1
    by_cases h2 : 0 < pb.length
    ·have HF4 : Hid (V.jq (la, pa) (lb, pb) = 1) := zuy (by
       rw [HF3.out]; unfold Lib.compareInt; rw [if_neg (by omega), if_pos (by omega)])
     go_wp2
     go_ret
     exact ⟨zn HF4.out.symm, HBE.out⟩
    ·have HF4 : Hid (V.jq (la, pa) (lb, pb) = 0) := zuy (by
       rw [HF3.out]; unfold Lib.compareInt; rw [if_neg (by omega), if_neg (by omega)])
     go_wp2
     go_ret
     exact ⟨zn HF4.out.symm, HBE.out⟩
   ·have b1e : ((pa.length : Int) == 0) = false := by rw [zu2]; omega
    have b1g : 0 < pa.length := by omega
    by_cases h2 : pb.length = 0
    ·have b2e : ((pb.length : Int) == 0) = true := by rw [h2]; rfl
     have HF4 : Hid (V.jq (la, pa) (lb, pb) = -1) := zuy (by
       rw [HF.out, hP.out, if_pos (by rw [List.eq_nil_of_length_eq_zero h2]; simp), h2]; unfold Lib.compareInt; rw [if_pos (by simp; omega)])
     clear h1 h2
     go_wp2
     go_ret
     exact ⟨zn HF4.out.symm, HBE.out⟩
    ·have b2e : ((pb.length : Int) == 0) = false := by rw [zu2]; omega
     have b2g : 0 < pb.length := by omega
     have HF3 : Hid (V.jq (la, pa) (lb, pb) = V.jh V.ki pa pb) := zuy (by
       rw [HF.out, hP.out, if_neg]
       cases pa <;> cases pb <;> simp at h1 h2 ⊢)
     clear h1 h2
     obtain ⟨b5, o5, e5, lt5, _⟩ := HS1'.out.at 0 b1g
     obtain ⟨b6, o6, e6, lt6, _⟩ := HS2.out.at 0 b2g
     have HD1 : Hid (∀ j, j < pa.length -> w2.cell? ⟨b5, o5 + j, none⟩ = some (.string ⟨(pa.getD j []).toArray⟩)) := zuy (fun j hj => by
       obtain ⟨b', o', e', _, h⟩ := HS1'.out.at j hj
       rw [e5] at e'; cases e'; exact h)
     have HD2 : Hid (∀ j, j < pb.length -> w2.cell? ⟨b6, o6 + j, none⟩ = some (.string ⟨(pb.getD j []).toArray⟩)) := zuy (fun j hj => by
       obtain ⟨b', o', e', _, h⟩ := HS2.out.at j hj
       rw [e6] at e'; cases e'; exact h)
     subst e5 e6
     clear HS1' HS2
     obtain ⟨wo, hwo⟩ : ∃ wo : World, wo = wr := ⟨_, rfl⟩
     subst hwo
     go_wp2
     go_loopw [13] (fun i wr => ∃ k : Nat, k ≤ pa.length /\ k ≤ pb.length /\ i = .int .i64 k /\ (∀ j, j < k -> V.ki (pa.getD j []) (pb.getD j []) = 0) /\ Below w2.heap.size w2 wr) (fun i _ => pa.length - (intOf i).toNat)
     case atStart => exact ⟨0, Nat.zero_le _, Nat.zero_le _, rfl, fun j hj => by omega, HB.out⟩
     case round =>
      obtain ⟨k, hk1, hk2, rfl, hz, hB⟩ := hrel
      have HZ := zuy hz
      have HB := zuy hB
      clear hz hB
      by_cases hlt1 : k < pa.length
      ·by_cases hlt2 : k < pb.length
       ·have hx := (HB.out.cell (p := ⟨b5, o5 + k, none⟩) lt5).trans (HD1.out k hlt1)
        have hy := (HB.out.cell (p := ⟨b6, o6 + k, none⟩) lt6).trans (HD2.out k hlt2)
        have hlx := IA.out k
        have hly := IB.out k
        have HHIT := zuy (zh9 k pa pb hlt1 hlt2 HZ.out)
        have HNEXT : Hid (V.ki (pa.getD k []) (pb.getD k []) = 0 -> ∀ j, j < k + 1 -> V.ki (pa.getD j []) (pb.getD j []) = 0) := zuy (fun h0 j hj => by
          by_cases e : j = k
          · subst e; exact h0
          · exact HZ.out j (by omega))
        generalize pa.getD k [] = x at *
        generalize pb.getD k [] = y at *
        go_wp2
        go_quiet ((go_at_call 190; exact Calls.quiet_of_same (zls x y _ (by omega) (by omega))))
        rename_i nq
        have HB5 := zuy (below_drewN HB.out nq)
        clear hx hy
        generalize wr.drewN nq = W at *
        by_cases h0 : V.ki x y = 0
        ·have HN := zuy (HNEXT.out h0)
         rw [h0]
         clear h0
         go_wp2
         go_roundw
         case rel => exact ⟨k + 1, by omega, by omega, by go_num, HN.out, HB5.out⟩
         case measure => simp [intOf]; omega
        ·have HR : Hid (V.jq (la, pa) (lb, pb) = V.ki x y) := zuy (by rw [HF3.out]; exact HHIT.out h0)
         have hb : (V.ki x y != 0) = true := by simpa using h0
         generalize V.ki x y = c at *
         clear h0
         go_wp2
         go_ret
         exact ⟨zn HR.out.symm, HB2.out.trans (HB5.out.mono HB2.out.size)⟩
       ·have HR : Hid (V.jq (la, pa) (lb, pb) = V.sgn ((pa.length : Int) - pb.length)) := zuy (by
          rw [HF3.out, zfw k pa pb hlt1 (by omega) HZ.out]; unfold V.sgn; rw [if_neg (by omega), if_pos (by omega)])
        exact zy1
      ·have HR : Hid (V.jq (la, pa) (lb, pb) = V.sgn ((pa.length : Int) - pb.length)) := zuy (by
         rw [HF3.out, ze6 k pa pb (by omega) hk2 HZ.out]; unfold V.sgn
         by_cases hl : k < pb.length
         · rw [if_pos hl, if_pos (by omega)]
         · rw [if_neg hl, if_neg (by omega), if_neg (by omega)])
       exact zy1
theorem zbw (n : Int) (w : World) :
  Calls Tryz.prog 117 #[.int .i64 n] w fun e w' => e = .returned (.bool (V.scheme n)) /\ w = w' := by
 have hs : V.scheme n = (decide (1 ≤ n) && decide (n ≤ 3)) := by
  rw [Bool.eq_iff_iff]; unfold V.scheme; simp; omega
 have HS := zuy hs
 clear hs
 go_enter Tryz.func117, Tryz.ntmps117
 go_wp2
 all_goals go_ret
 all_goals exact ⟨zc (by rw [HS.out]; simp_all; try omega), rfl⟩
theorem zyn {P : Prop} (h : P := by
 rintro e w1 ⟨rfl, hb⟩
 have HB := zuy hb
 clear hb
 go_wp2
 go_ret
 exact ⟨zn HC.out.symm, HB.out⟩) : P := h
theorem zsf (n : Int) (s t : ByteArray) (w : World) (hm : zg w) (hn : V.scheme n = true) (hs : V.valid n s.data.toList = true) (ht : V.valid n t.data.toList = true) :
  Calls Tryz.prog 127 #[.int .i64 n, .string s, .string t] w fun e w' => e = .returned (.int .i64 (V.cmpV n s.data.toList t.data.toList)) /\ Below w.heap.size w w' := by
 have l1 := V.vg hs
 have l2 := V.vg ht
 rw [zf] at l1 l2
 have HM := zuy hm
 have h3 : n = 1 ∨ n = 2 ∨ n = 3 := by unfold V.scheme at hn; simpa [or_assoc] using hn
 rcases h3 with rfl | rfl | rfl
 ·obtain ⟨⟨la, pa⟩, e1⟩ := Option.isSome_iff_exists.1 (show (V.zo s.data.toList).isSome = true by unfold V.valid V.yz at hs; simp at hs; exact hs.2)
  obtain ⟨⟨lb, pb⟩, e2⟩ := Option.isSome_iff_exists.1 (show (V.zo t.data.toList).isSome = true by unfold V.valid V.yz at ht; simp at ht; exact ht.2)
  have HC : Hid (V.cmpV 1 s.data.toList t.data.toList = V.jq (la, pa) (lb, pb)) := zuy (by unfold V.cmpV; rw [if_pos rfl, e1, e2])
  have E1 := zuy e1
  have E2 := zuy e2
  clear e1 e2 hs ht hm hn
  go_enter Tryz.func127, Tryz.ntmps127
  go_wp2_with fail
  refine (zlp s t la pa lb pb _ HM.out l1 l2 E1.out E2.out).mono ?_
  exact zyn
 ·obtain ⟨⟨x0, x1, x2⟩, e1⟩ := Option.isSome_iff_exists.1 (show (V.zr s.data.toList).isSome = true by unfold V.valid V.yz at hs; simp at hs; exact hs.2)
  obtain ⟨⟨y0, y1, y2⟩, e2⟩ := Option.isSome_iff_exists.1 (show (V.zr t.data.toList).isSome = true by unfold V.valid V.yz at ht; simp at ht; exact ht.2)
  have HC : Hid (V.cmpV 2 s.data.toList t.data.toList = V.vk (x0, x1, x2) (y0, y1, y2)) := zuy (by unfold V.cmpV; rw [if_neg (by decide), if_pos rfl, e1, e2])
  have E1 := zuy e1
  have E2 := zuy e2
  clear e1 e2 hs ht hm hn
  go_enter Tryz.func127, Tryz.ntmps127
  go_wp2_with fail
  refine (zl1 s t x0 x1 x2 y0 y1 y2 _ HM.out l1 l2 E1.out E2.out).mono ?_
  exact zyn
 ·have HC : Hid (V.cmpV 3 s.data.toList t.data.toList = V.zbe s.data.toList t.data.toList) := zuy (by unfold V.cmpV; rw [if_neg (by decide), if_neg (by decide)])
  clear hs ht hm hn
  go_enter Tryz.func127, Tryz.ntmps127
  go_wp2_with fail
  refine (zqw s t _ HM.out l1 l2).mono ?_
  exact zyn
open Go.RowKit
theorem zrz (n : Int) (s t : ByteArray) (c k : Int) (h : V.qt n s.data.toList t.data.toList = (c, k)) (w : World) (hm : zg w) (hs : s.size ≤ maxLen) (ht : t.size ≤ maxLen) :
  Calls Tryz.prog 125 #[.int .i64 n, .string s, .string t] w fun e w' => e = .returned (.tuple #[.int .i64 c, .int .i64 k]) /\ Below w.heap.size w w' := by
 have := zq6 n s t w hm hs ht
 rw [h] at this
 exact this
open Go.RowKit
theorem zee (w : World) (b o : Nat) (u : Value) : w.grownBy (w.setCell ⟨b, o, none⟩ u) (some b) :=
 ⟨rfl, rfl, rfl, by simp [World.setCell], fun k _ hk => Below.heap_setCell _ _ _ _ (fun e => hk (by rw [e]))⟩
theorem zpy {w w' : World} {b B : Nat} (h : w.grownBy w' (some b)) (hb : B ≤ b) (hB : B ≤ w.heap.size) : Below B w w' :=
 ⟨h.os, h.tape, h.output, h.size, fun k hk => h.block k (by omega) (fun e => by cases e; omega)⟩
open Go.RowKit
open Go.RowKit
theorem zyr {P : Prop} (h : P := by
 have h1 : ¬ x < y := fun g => by rw [UInt8.lt_iff_toNat_lt] at h g; omega
 have h2 : (x == y) = false := by
  rw [zu2]; intro g; subst g; simp at h
 rw [e, h2]; simp [h1]) : P := h
theorem we : ∀ a b : V.Bs, Op.bytesLess a b = decide (V.cb a b < 0)
 | [], [] => rfl
 | [], _ :: _ => rfl
 | _ :: _, [] => rfl
 | x :: a, y :: b => by
  unfold Op.bytesLess
  rcases V.zit x y a b with ⟨h, e⟩ | ⟨h, e⟩ | ⟨h, e⟩
  ·rw [e]; simp [h]
  ·subst h
   have : ¬ x < x := by simp
   rw [e, ← we a b]; simp [this]
  ·exact zyr
open Go.RowKit
theorem zx7 {P : Prop} (h : P := by
 go_enter Tryz.func65, Tryz.ntmps65
 go_wp2
 go_ret
 exact ⟨rfl, rfl⟩) : P := h
theorem zj3 (n : Int) (w : World) :
  Calls Tryz.prog 65 #[.int .i64 n] w fun e w' => e = .returned (.string ⟨(V.qb n).toArray⟩) /\ w' = w := by
 by_cases h1 : n = 1
 ·subst h1
  exact zx7
 by_cases h2 : n = 2
 ·subst h2
  exact zx7
 by_cases h3 : n = 3
 ·subst h3
  exact zx7
 have HN : Hid (V.qb n = []) := zuy (by unfold V.qb; rw [if_neg h1, if_neg h2, if_neg h3])
 go_enter Tryz.func65, Tryz.ntmps65
 go_wp2
 go_ret
 exact ⟨by rw [HN.out]; rfl, rfl⟩
theorem zxn {P : Prop} (h : P := by
 go_enter Tryz.func68, Tryz.ntmps68
 go_wp2
 go_ret
 exact ⟨rfl, rfl⟩) : P := h
theorem zhv (n : Int) (w : World) :
  Calls Tryz.prog 68 #[.int .i64 n] w fun e w' => e = .returned (.string ⟨(V.qb n).toArray⟩) /\ w' = w := by
 by_cases h1 : n = 1
 ·subst h1
  exact zxn
 by_cases h2 : n = 2
 ·subst h2
  exact zxn
 by_cases h3 : n = 3
 ·subst h3
  exact zxn
 have HN : Hid (V.qb n = []) := zuy (by unfold V.qb; rw [if_neg h1, if_neg h2, if_neg h3])
 go_enter Tryz.func68, Tryz.ntmps68
 go_wp2
 go_ret
 exact ⟨by rw [HN.out]; rfl, rfl⟩
theorem yq (s : ByteArray) (w : World) :
  Calls Tryz.prog 80 #[.string s] w fun e w' => e = .returned (.int .i64 (V.qh s.data.toList)) /\ w' = w := by
 go_enter Tryz.func80, Tryz.ntmps80
 go_wp2
 go_loop [3] (fun i => ∃ k : Nat, k ≤ 4 /\ 1 ≤ k /\ i = .int .i64 k /\ ∀ j : Nat, 1 ≤ j -> j < k -> ¬ s.data.toList = V.qb j) (fun i => 4 - (intOf i).toNat)
 case atStart => exact ⟨1, by omega, by omega, rfl, fun j h1 h2 => by omega⟩
 case round =>
  obtain ⟨k, hk, hk1, rfl, hz⟩ := hrel
  have HZ := zuy hz
  clear hz
  by_cases hlt : k ≤ 3
  ·go_wp2_with fail
   refine (zhv _ _).mono ?_
   rintro e w' ⟨rfl, rfl⟩
   by_cases he : s.data.toList = V.qb k
   ·have HE := zuy he
    have hs : s = ⟨(V.qb k).toArray⟩ := ji (by rw [wg]; exact he)
    have HR : Hid (V.qh s.data.toList = k) := zuy (V.zmd hk1 hlt he)
    rw [← hs]
    clear he hs
    go_wp2
    go_ret
    exact ⟨zn HR.out.symm, rfl⟩
   ·have hne : ((⟨(V.qb k).toArray⟩ : ByteArray).toList == s.toList) = false := by
     rw [Lib.toList_data, Lib.toList_data, wg]
     exact zu2.2 fun e => he e.symm
    have HR : Hid (∀ j : Nat, 1 ≤ j -> j < k + 1 -> ¬ s.data.toList = V.qb j) := zuy fun j h1 h2 => by
     by_cases e : j = k
     ·subst e; exact he
     ·exact HZ.out j h1 (by omega)
    generalize (⟨(V.qb k).toArray⟩ : ByteArray) = x at *
    clear he
    go_wp2
    go_round
    case rel => exact ⟨k + 1, by omega, by omega, by go_num, HR.out⟩
    case measure => simp [intOf]; omega
  ·have HR : Hid (V.qh s.data.toList = 0) := zuy (V.znj fun j h1 h2 => HZ.out j h1 (by omega))
   go_wp2
   go_ret
   exact ⟨zn HR.out.symm, rfl⟩
theorem zpx (s : ByteArray) (w : World) :
  Calls Tryz.prog 150 #[.string s] w fun e w' => e = .returned (.int .i64 (V.qh s.data.toList)) /\ Below w.heap.size w w' := by
 have HB := zuy ((zu1 w.heap.size w).alloc (zu0 _) (.cells #[.int .i64 1, .int .i64 2, .int .i64 3] 3))
 have HC : Hid (∀ j, j < 3 -> (w.alloc (.cells #[.int .i64 1, .int .i64 2, .int .i64 3] 3)).cell? ⟨w.heap.size, j, none⟩ = some (.int .i64 ((j + 1 : Nat) : Int))) := zuy (fun j hj => by
   rw [World.cell?_alloc_new]
   have : j = 0 ∨ j = 1 ∨ j = 2 := by omega
   rcases this with rfl | rfl | rfl <;> rfl)
 go_enter Tryz.func150, Tryz.ntmps150
 go_wp2_with fail
 generalize w.alloc (.cells #[.int .i64 1, .int .i64 2, .int .i64 3] 3) = w0 at *
 go_loopw [7] (fun i W => ∃ k : Nat, k ≤ 3 /\ i = .int .i64 k /\ W = w0 /\ ∀ j : Nat, 1 ≤ j -> j < k + 1 -> ¬ s.data.toList = V.qb j) (fun i _ => 3 - (intOf i).toNat)
 case atStart => exact ⟨0, by omega, rfl, rfl, fun j h1 h2 => by omega⟩
 case round =>
  obtain ⟨k, hk, rfl, rfl, hz⟩ := hrel
  have HZ := zuy hz
  clear hz
  by_cases hlt : k < 3
  ·have hcell := HC.out k hlt
   obtain ⟨n, hn⟩ : ∃ n : Nat, n = k + 1 := ⟨_, rfl⟩
   rw [← hn] at hcell
   have HNK := zuy hn
   clear hn
   have i1 : (0 : Int) ≤ (k : Int) := by omega
   have i2 : (k : Int) < 3 := by omega
   go_wp2_with fail
   refine (zj3 _ _).mono ?_
   rintro e w' ⟨rfl, rfl⟩
   by_cases he : s.data.toList = V.qb n
   ·have HE := zuy he
    have hs : s = ⟨(V.qb n).toArray⟩ := ji (by rw [wg]; exact he)
    have HR : Hid (V.qh s.data.toList = n) := zuy (V.zmd (by have := HNK.out; omega) (by have := HNK.out; omega) he)
    rw [← hs]
    clear he hs
    go_wp2
    go_ret
    exact ⟨zn HR.out.symm, HB.out⟩
   ·have hne : ((⟨(V.qb n).toArray⟩ : ByteArray).toList == s.toList) = false := by
     rw [Lib.toList_data, Lib.toList_data, wg]
     exact zu2.2 fun e => he e.symm
    have HR : Hid (∀ j : Nat, 1 ≤ j -> j < n + 1 -> ¬ s.data.toList = V.qb j) := zuy fun j h1 h2 => by
     by_cases e : j = n
     ·subst e; exact he
     ·exact HZ.out j h1 (by have := HNK.out; omega)
    generalize (⟨(V.qb n).toArray⟩ : ByteArray) = x at *
    clear he
    go_wp2
    go_round
    case rel => exact ⟨k + 1, by omega, by go_num, (by first | exact trivial | rfl), by rw [← HNK.out]; exact HR.out⟩
    case measure => simp [intOf]; omega
  ·have HR : Hid (V.qh s.data.toList = 0) := zuy (V.znj fun j h1 h2 => HZ.out j h1 (by omega))
   go_wp2
   go_ret
   exact ⟨zn HR.out.symm, HB.out⟩
theorem zlh (s : ByteArray) (w : World) : Calls Tryz.prog 148 #[.string s] w fun e w' => e = .returned (.bool false) /\ w' = w := by
 go_enter Tryz.func148, Tryz.ntmps148
 go_wp2
 go_ret
 first | exact ⟨rfl, rfl⟩ | simp
theorem zrl (s t : ByteArray) (w : World) : Calls Tryz.prog 114 #[.string s, .string t] w fun e w' => e = .returned (.int .i64 (Lib.compareBytes s.data.toList t.data.toList)) /\ w' = w := by
 have h1 : Op.bytesLess s.toList t.toList = decide (Lib.compareBytes s.data.toList t.data.toList < 0) := by rw [Lib.toList_data, Lib.toList_data]; exact we _ _
 have h2 : Op.bytesLess t.toList s.toList = decide (0 < Lib.compareBytes s.data.toList t.data.toList) := by
  rw [Lib.toList_data, Lib.toList_data, we, V.xe s.data.toList t.data.toList]
  exact decide_eq_decide.2 (by show - V.cb s.data.toList t.data.toList < 0 ↔ 0 < V.cb s.data.toList t.data.toList; omega)
 have h3 : (s.toList == t.toList) = decide (Lib.compareBytes s.data.toList t.data.toList = 0) := by
  rw [Lib.toList_data, Lib.toList_data, Bool.eq_iff_iff, beq_iff_eq, decide_eq_true_eq]
  exact ⟨fun e => by rw [e]; exact V.um _, fun e => V.zqj e⟩
 have HR : Hid (Lib.compareBytes s.data.toList t.data.toList = -1 ∨ Lib.compareBytes s.data.toList t.data.toList = 0 ∨ Lib.compareBytes s.data.toList t.data.toList = 1) := zuy (V.zk8 _ _)
 generalize Lib.compareBytes s.data.toList t.data.toList = c at *
 go_enter Tryz.func114, Tryz.ntmps114
 go_wp2_with fail
 refine (zlh s _).mono ?_
 rintro e w' ⟨rfl, rfl⟩
 go_wp2_with fail
 refine (zlh t _).mono ?_
 rintro e w' ⟨rfl, rfl⟩
 rcases HR.out with rfl | rfl | rfl
 all_goals
  simp only [show decide ((-1 : Int) < 0) = true from rfl, show decide ((0 : Int) < -1) = false from rfl, show decide ((0 : Int) < 0) = false from rfl, show decide ((1 : Int) < 0) = false from rfl, show decide ((0 : Int) < 1) = true from rfl, show decide ((-1 : Int) = 0) = false from rfl, show decide ((0 : Int) = 0) = true from rfl, show decide ((1 : Int) = 0) = false from rfl] at h1 h2 h3
  clear HR
  go_wp2
  go_ret
  first | exact ⟨rfl, rfl⟩ | simp
theorem zap (c : UInt8) (w : World) : Calls Tryz.prog 130 #[.int .u8 c.toNat] w fun e w' => e = .returned (.bool (V.jc c)) /\ w' = w := by
 obtain ⟨n, hn⟩ : ∃ n : Int, n = (c.toNat : Int) := ⟨_, rfl⟩
 have HP : Hid (V.jc c = (decide (33 ≤ n) && (decide (n ≤ 125) && (n != 37)))) := zuy (by
   have hb : (n != 37) = !decide (n = 37) := rfl
   rw [hb]
   unfold V.jc
   rw [decide_eq_decide.2 (show 33 ≤ c.toNat ↔ 33 ≤ n by omega), decide_eq_decide.2 (show c.toNat ≤ 125 ↔ n ≤ 125 by omega), decide_eq_decide.2 (show c.toNat = 37 ↔ n = 37 by omega)])
 rw [← hn]
 clear hn
 go_enter Tryz.func130, Tryz.ntmps130
 go_wp2
 all_goals go_ret
 all_goals exact ⟨zc (by rw [HP.out]; simp_all; try omega), rfl⟩
theorem zbz (c : UInt8) (w : World) : Calls Tryz.prog 120 #[.int .u8 c.toNat] w fun e w' => e = .returned (.bool (V.jc c)) /\ w' = w := by
 obtain ⟨n, hn⟩ : ∃ n : Int, n = (c.toNat : Int) := ⟨_, rfl⟩
 have HP : Hid (V.jc c = (decide (33 ≤ n) && (decide (n ≤ 125) && (n != 37)))) := zuy (by
   have hb : (n != 37) = !decide (n = 37) := rfl
   rw [hb]
   unfold V.jc
   rw [decide_eq_decide.2 (show 33 ≤ c.toNat ↔ 33 ≤ n by omega), decide_eq_decide.2 (show c.toNat ≤ 125 ↔ n ≤ 125 by omega), decide_eq_decide.2 (show c.toNat = 37 ↔ n = 37 by omega)])
 rw [← hn]
 clear hn
 go_enter Tryz.func120, Tryz.ntmps120
 go_wp2
 all_goals go_ret
 all_goals exact ⟨zc (by rw [HP.out]; simp_all; try omega), rfl⟩
theorem zuk {l : V.Bs} {k : Nat} (h : k < l.length) : ((l.take (k + 1)).map V.ue).sum = ((l.take k).map V.ue).sum + V.ue l[k] := by
 exact zzs
theorem zss (l : V.Bs) (k : Nat) : ((l.take k).map V.ue).sum ≤ 3 * l.length := by
 have := V.sum_le (l.take k)
 rw [List.length_take] at this
 omega
theorem zze {P : Prop} (h : P := by
 clear hp HT
 go_wp2
 go_round
 case rel => exact ⟨k + 1, by omega, by go_num, by rw [HN.out]; go_num⟩
 case measure => simp [intOf]; omega) : P := h
theorem zhs (s : ByteArray) (w : World) (hs : s.size ≤ 100000) : Calls Tryz.prog 106 #[.string s] w fun e w' => e = .returned (.int .i64 (V.wf s.data.toList : Nat)) /\ w' = w := by
 go_enter Tryz.func106, Tryz.ntmps106
 go_wp2
 go_loop [3, 4] (fun nv iv => ∃ k : Nat, k ≤ s.size /\ iv = .int .i64 k /\ nv = .int .i64 (((s.data.toList.take k).map V.ue).sum : Nat)) (fun _ iv => s.size - (intOf iv).toNat)
 case atStart => exact ⟨0, Nat.zero_le _, rfl, rfl⟩
 case round =>
  obtain ⟨k, hk, rfl, rfl⟩ := hrel
  have hl := zf s
  have hle := zss s.data.toList k
  rw [hl] at hle
  by_cases hlt : k < s.size
  ·have HT := zuy (zuk (l := s.data.toList) (k := k) (by omega))
   have he : s.data.toList[k]'(by omega) = s[k] := by simp; rfl
   rw [he] at HT
   obtain ⟨q, hq⟩ : ∃ q, q = ((s.data.toList.take k).map V.ue).sum := ⟨_, rfl⟩
   rw [← hq] at HT hle ⊢
   clear he hl hq
   go_wp2_with fail
   refine (zap s[k] w).mono ?_
   rintro e w' ⟨rfl, rfl⟩
   rcases hp : V.jc s[k] with _ | _
   ·have HN : Hid (((s.data.toList.take (k + 1)).map V.ue).sum = q + 3) := zuy (by rw [HT.out]; unfold V.ue; rw [hp]; rfl)
    exact zze
   ·have HN : Hid (((s.data.toList.take (k + 1)).map V.ue).sum = q + 1) := zuy (by rw [HT.out]; unfold V.ue; rw [hp]; rfl)
    exact zze
  ·obtain rfl : k = s.size := by omega
   have ht : s.data.toList.take s.size = s.data.toList := List.take_of_length_le (by omega)
   rw [ht] at hle ⊢
   have HS : Hid (V.wf s.data.toList = max ((s.data.toList.map V.ue).sum) 1) := zuy rfl
   obtain ⟨q, hq⟩ : ∃ q, q = (s.data.toList.map V.ue).sum := ⟨_, rfl⟩
   rw [← hq] at HS hle ⊢
   clear ht hl hq
   go_wp2
   go_ret
   exact ⟨by rw [HS.out, show ((max q 1 : Nat) : Int) = max (q : Int) 1 by omega]; rfl, rfl⟩
end Go.Proofs.YtnhfaincdabdkaaGreatDoor
