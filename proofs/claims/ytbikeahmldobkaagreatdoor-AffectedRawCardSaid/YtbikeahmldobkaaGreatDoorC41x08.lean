/-
  Lemmas for the law.
-/
import Derived.Test.YtbikeahmldobkaaGreatDoorC41x07
import Derived.Test.YtbikeahmldobkaaGreatDoorC41x01
set_option linter.all false
set_option maxRecDepth 100000
set_option maxHeartbeats 800000
namespace Go.Proofs.YtbikeahmldobkaaGreatDoor
open Go.RowKit
theorem ziy {r : Option (List V.Bs × List V.Bs)} {w : World} {e : Ending} {w' : World} (h : zei r w e w') (hr : r = none) :
  e = .returned (.tuple #[.agg #[.string ⟨#[]⟩, .string ⟨#[]⟩, .string ⟨#[]⟩, .slice none 0 0], .bool false]) /\ Below w.heap.size w w' := by
 subst hr; exact ⟨h.2, h.1⟩
theorem zcb {r : Option (List V.Bs × List V.Bs)} {l pre : List V.Bs} {w : World} {e : Ending} {w' : World} (h : zei r w e w') (hr : r = some (l, pre)) :
  ∃ pv, e = .returned (.tuple #[.agg #[.string ⟨(l.getD 0 []).toArray⟩, .string ⟨(l.getD 1 []).toArray⟩, .string ⟨(l.getD 2 []).toArray⟩, pv], .bool true]) /\ Strs w' pv pre /\ Below w.heap.size w w' := by
 subst hr; obtain ⟨h1, pv, h2, h3⟩ := h; exact ⟨pv, h3, h2, h1⟩
theorem zq3 {P : Prop} (h : P := by
 have HB1 := zpb HB0 hb1
 clear h hb1
 go_wp2
 go_ret
 refine ⟨zf rfl, ?_⟩
 exact (HB1.out.alloc HB1.out.size _)) : P := h
theorem zis (s : ByteArray) (w : World) (hm : zm w) (hs : s.size ≤ 1000) :
  Calls Tryz.prog 227 #[.agg #[], .string s] w fun e w' => e = .returned (.bool (V.zl s.data.toList).isSome) /\ Below w.heap.size w w' := by
 have hb0 : Below w.heap.size w (w.alloc (.cells #[] 203)) := (zpd _ w).alloc (zpc _) _
 have hm0 := hm.below hb0
 rcases hp : V.zl s.data.toList with _ | ⟨l, pre⟩
 ·have HP := zpa hp
  have HB0 := zpa hb0
  clear hp hb0
  go_enter Tryz.func227, Tryz.ntmps227
  go_wp2_with fail
  refine (yq s _ hm0 hs).mono ?_
  rintro e w1 h
  obtain ⟨rfl, hb1⟩ := ziy h HP.out
  exact zq3
 ·have HP := zpa hp
  have HB0 := zpa hb0
  clear hp hb0
  go_enter Tryz.func227, Tryz.ntmps227
  go_wp2_with fail
  refine (yq s _ hm0 hs).mono ?_
  rintro e w1 h
  obtain ⟨pv, rfl, hpv, hb1⟩ := zcb h HP.out
  obtain ⟨a, cap, rfl, hc⟩ := hpv
  have HB1 := zpb HB0 hb1
  clear h hb1 hc
  go_wp2
  go_ret
  refine ⟨zf rfl, ?_⟩
  exact (HB1.out.alloc HB1.out.size _)
theorem qw {l : List V.Bs} {k : Nat} (h : k < l.length) : l.getD k [] = l[k] := by simp [List.getD, List.getElem?_eq_getElem h]
theorem zec (c : UInt8) (n : Nat) (h : n < 256) : decide (c = UInt8.ofNat n) = ((c.toNat : Int) == (n : Int)) := by
 rw [Bool.eq_iff_iff]
 simp only [decide_eq_true_eq, beq_iff_eq]
 rw [← UInt8.toNat_inj, UInt8.toNat_ofNat']
 have : n % 2 ^ 8 = n := Nat.mod_eq_of_lt h
 rw [this]; omega
theorem kind3 (c : UInt8) : V.kind V.allow c = (V.letB c.toNat || V.digB c.toNat || ((c.toNat : Int) == 46) || ((c.toNat : Int) == 43) || ((c.toNat : Int) == 126)) := by
 unfold V.kind V.lett V.dig V.allow
 have h1 := zec c 46 (by omega)
 have h2 := zec c 43 (by omega)
 have h3 := zec c 126 (by omega)
 have e : decide (c ∈ [46, 43, 126]) = (decide (c = UInt8.ofNat 46) || decide (c = UInt8.ofNat 43) || decide (c = UInt8.ofNat 126)) := by
  rw [Bool.eq_iff_iff]; simp; rw [or_assoc]
 rw [e, h1, h2, h3]
 simp [Bool.or_assoc]
theorem kind4 (c : UInt8) : V.kind [46, 43, 126, 45] c = (V.kind V.allow c || ((c.toNat : Int) == 45)) := by
 have h1 := zec c 45 (by omega)
 have e : ((c.toNat : Int) == 45) = decide (c = UInt8.ofNat 45) := h1.symm
 rw [e]
 unfold V.kind V.allow
 rw [Bool.eq_iff_iff]; simp; constructor
 ·rintro (h | h | h | h | h)
  ·exact .inl (.inl h)
  ·exact .inl (.inr (.inl h))
  ·exact .inl (.inr (.inr (.inl h)))
  ·exact .inl (.inr (.inr (.inr h)))
  ·exact .inr h
 ·rintro ((h | h | h | h) | h)
  ·exact .inl h
  ·exact .inr (.inl h)
  ·exact .inr (.inr (.inl h))
  ·exact .inr (.inr (.inr (.inl h)))
  ·exact .inr (.inr (.inr (.inr h)))
theorem zdw (c : UInt8) (w : World) :
  Calls Tryz.prog 256 #[.int .u8 c.toNat] w fun e w' => e = .returned (.bool (V.kind V.allow c)) /\ w = w' := by
 have HK := zpa (kind3 c)
 generalize hn : (c.toNat : Int) = x at *
 clear hn
 rcases hD : V.digB x with _ | _
 ·have HD := zpa hD
  rcases hL : V.letB x with _ | _
  all_goals
   have HL := zpa hL
   rw [hD, hL] at HK
   clear hD hL
   go_enter Tryz.func256, Tryz.ntmps256
   go_wp2_with fail
   refine (xp _ _).mono ?_
   rintro e w' ⟨rfl, rfl⟩
   simp only [HD.out]
   go_wp2_with fail
   refine (we _ _).mono ?_
   rintro e w' ⟨rfl, rfl⟩
   simp only [HL.out]
   go_wp2
   all_goals
    go_ret
    exact ⟨zf (by rw [HK.out]; simp_all), rfl⟩
 ·have HD := zpa hD
  rw [hD] at HK
  clear hD
  go_enter Tryz.func256, Tryz.ntmps256
  exact zrn
theorem zjg (s : ByteArray) (w : World) (hs : s.size ≤ maxLen) :
  Calls Tryz.prog 235 #[.string s, .func (.func 256) #[] #[]] w fun e w' => e = .returned (.bool (V.only (V.kind V.allow) s.data.toList)) /\ w = w' :=
 zcs s _ #[] (V.kind V.allow) w hs (enters_of Tryz.func256 (by kernel_rfl) rfl) (fun c => zdw c w)
theorem zjn (c : UInt8) (q : Nat) (w : World) (hq : w.cell? ⟨q, 0, none⟩ = some (.func (.func 256) #[] #[])) :
  Calls Tryz.prog 258 #[.int .u8 c.toNat, .pointer (some ⟨q, 0, none⟩)] w fun e w' => e = .returned (.bool (V.kind [46, 43, 126, 45] c)) /\ w = w' := by
 have HK := zpa (kind4 c)
 rcases hA : V.kind V.allow c with _ | _
 all_goals
  have HA := zpa hA
  rw [hA] at HK
  clear hA
  go_enter Tryz.func258, Tryz.ntmps258
  go_wp2_with fail
  refine (zdw _ _).mono ?_
  rintro e w' ⟨rfl, rfl⟩
  simp only [HA.out]
  go_wp2
  go_ret
  exact ⟨zf (by rw [HK.out]; simp), rfl⟩
theorem zbp (s : ByteArray) (q : Nat) (w : World) (hs : s.size ≤ maxLen) (hq : w.cell? ⟨q, 0, none⟩ = some (.func (.func 256) #[] #[])) :
  Calls Tryz.prog 235 #[.string s, .func (.func 258) #[] #[.pointer (some ⟨q, 0, none⟩)]] w fun e w' => e = .returned (.bool (V.only (V.kind [46, 43, 126, 45]) s.data.toList)) /\ w = w' :=
 zcs s _ #[.pointer (some ⟨q, 0, none⟩)] (V.kind [46, 43, 126, 45]) w hs (enters_of Tryz.func258 (by kernel_rfl) rfl) (fun c => zjn c q w hq)
end Go.Proofs.YtbikeahmldobkaaGreatDoor
