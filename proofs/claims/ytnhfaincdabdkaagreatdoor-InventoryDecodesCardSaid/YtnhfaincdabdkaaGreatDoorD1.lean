/-
  Walks: semantic versions valid.
  Walks: versions of Debian packages, the kinds of bytes.
-/
import Derived.Test.YtnhfaincdabdkaaGreatDoorS2
import Derived.Test.YtnhfaincdabdkaaGreatDoorP3
namespace Go.Proofs.YtnhfaincdabdkaaGreatDoor
open Go.RowKit

theorem semPost_none {r : Option (List V.Bs × List V.Bs)} {w : World} {e : Ending} {w' : World} (h : SemPost r w e w') (hr : r = none) :
    e = .returned (.tuple #[.agg #[.string ⟨#[]⟩, .string ⟨#[]⟩, .string ⟨#[]⟩, .slice none 0 0], .bool false]) ∧ Below w.heap.size w w' := by
  subst hr; exact ⟨h.2, h.1⟩
theorem semPost_some {r : Option (List V.Bs × List V.Bs)} {l pre : List V.Bs} {w : World} {e : Ending} {w' : World} (h : SemPost r w e w') (hr : r = some (l, pre)) :
    ∃ pv, e = .returned (.tuple #[.agg #[.string ⟨(l.getD 0 []).toArray⟩, .string ⟨(l.getD 1 []).toArray⟩, .string ⟨(l.getD 2 []).toArray⟩, pv], .bool true]) ∧ Strs w' pv pre ∧ Below w.heap.size w w' := by
  subst hr; obtain ⟨h1, pv, h2, h3⟩ := h; exact ⟨pv, h3, h2, h1⟩

set_option maxRecDepth 100000 in
set_option maxHeartbeats 800000 in
theorem semValid_any (s : ByteArray) (w : World) (hm : MaxOk w) (hs : s.size ≤ 1000) :
    Calls Tryz.prog 257 #[.agg #[], .string s] w fun e w' => e = .returned (.bool (V.semParse s.data.toList).isSome) ∧ Below w.heap.size w w' := by
  have hb0 : Below w.heap.size w (w.alloc (.cells #[] 190)) := (Below.refl _ w).alloc (Nat.le_refl _) _
  have hm0 := hm.below hb0
  rcases hp : V.semParse s.data.toList with _ | ⟨l, pre⟩
  · have HP := Lib.hid hp
    have HB0 := Lib.hid hb0
    clear hp hb0
    go_enter Tryz.func257, Tryz.ntmps257
    go_wp2_with fail
    refine (semParse_any s _ hm0 hs).mono ?_
    rintro e w1 h
    obtain ⟨rfl, hb1⟩ := semPost_none h HP.out
    have HB1 := Lib.hid (HB0.out.trans (hb1.mono HB0.out.size))
    clear h hb1
    go_wp2
    go_ret
    refine ⟨ret_bool rfl, ?_⟩
    exact (HB1.out.alloc HB1.out.size _)
  · have HP := Lib.hid hp
    have HB0 := Lib.hid hb0
    clear hp hb0
    go_enter Tryz.func257, Tryz.ntmps257
    go_wp2_with fail
    refine (semParse_any s _ hm0 hs).mono ?_
    rintro e w1 h
    obtain ⟨pv, rfl, hpv, hb1⟩ := semPost_some h HP.out
    obtain ⟨a, cap, rfl, hc⟩ := hpv
    have HB1 := Lib.hid (HB0.out.trans (hb1.mono HB0.out.size))
    clear h hb1 hc
    go_wp2
    go_ret
    refine ⟨ret_bool rfl, ?_⟩
    exact (HB1.out.alloc HB1.out.size _)

theorem getD_of {l : List V.Bs} {k : Nat} (h : k < l.length) : l.getD k [] = l[k] := by simp [List.getD, List.getElem?_eq_getElem h]
end Go.Proofs.YtnhfaincdabdkaaGreatDoor
namespace Go.Proofs.YtnhfaincdabdkaaGreatDoor
open Go.RowKit

theorem byte_eq (c : UInt8) (n : Nat) (h : n < 256) : decide (c = UInt8.ofNat n) = ((c.toNat : Int) == (n : Int)) := by
  rw [Bool.eq_iff_iff]
  simp only [decide_eq_true_eq, beq_iff_eq]
  rw [← UInt8.toNat_inj, UInt8.toNat_ofNat']
  have : n % 2 ^ 8 = n := Nat.mod_eq_of_lt h
  rw [this]; omega

theorem kind3 (c : UInt8) : V.kind V.allow c = (V.letB c.toNat || V.digB c.toNat || ((c.toNat : Int) == 46) || ((c.toNat : Int) == 43) || ((c.toNat : Int) == 126)) := by
  unfold V.kind V.lett V.dig V.allow
  have h1 := byte_eq c 46 (by omega)
  have h2 := byte_eq c 43 (by omega)
  have h3 := byte_eq c 126 (by omega)
  have e : decide (c ∈ [46, 43, 126]) = (decide (c = UInt8.ofNat 46) || decide (c = UInt8.ofNat 43) || decide (c = UInt8.ofNat 126)) := by
    rw [Bool.eq_iff_iff]; simp; rw [or_assoc]
  rw [e, h1, h2, h3]
  simp [Bool.or_assoc]

theorem kind4 (c : UInt8) : V.kind [46, 43, 126, 45] c = (V.kind V.allow c || ((c.toNat : Int) == 45)) := by
  have h1 := byte_eq c 45 (by omega)
  have e : ((c.toNat : Int) == 45) = decide (c = UInt8.ofNat 45) := h1.symm
  rw [e]
  unfold V.kind V.allow
  rw [Bool.eq_iff_iff]; simp; constructor
  · rintro (h | h | h | h | h)
    · exact .inl (.inl h)
    · exact .inl (.inr (.inl h))
    · exact .inl (.inr (.inr (.inl h)))
    · exact .inl (.inr (.inr (.inr h)))
    · exact .inr h
  · rintro ((h | h | h | h) | h)
    · exact .inl h
    · exact .inr (.inl h)
    · exact .inr (.inr (.inl h))
    · exact .inr (.inr (.inr (.inl h)))
    · exact .inr (.inr (.inr (.inr h)))

set_option maxHeartbeats 800000 in
theorem allowed_any (c : UInt8) (w : World) :
    Calls Tryz.prog 286 #[.int .u8 c.toNat] w fun e w' => e = .returned (.bool (V.kind V.allow c)) ∧ w = w' := by
  have HK := Lib.hid (kind3 c)
  generalize hn : (c.toNat : Int) = x at *
  clear hn
  rcases hD : V.digB x with _ | _
  · have HD := Lib.hid hD
    rcases hL : V.letB x with _ | _
    all_goals
      have HL := Lib.hid hL
      rw [hD, hL] at HK
      clear hD hL
      go_enter Tryz.func286, Tryz.ntmps286
      go_wp2_with fail
      refine (digit_any _ _).mono ?_
      rintro e w' ⟨rfl, rfl⟩
      simp only [HD.out]
      go_wp2_with fail
      refine (letter_any _ _).mono ?_
      rintro e w' ⟨rfl, rfl⟩
      simp only [HL.out]
      go_wp2
      all_goals
        go_ret
        exact ⟨ret_bool (by rw [HK.out]; simp_all), rfl⟩
  · have HD := Lib.hid hD
    rw [hD] at HK
    clear hD
    go_enter Tryz.func286, Tryz.ntmps286
    go_wp2_with fail
    refine (digit_any _ _).mono ?_
    rintro e w' ⟨rfl, rfl⟩
    simp only [HD.out]
    go_wp2
    go_ret
    exact ⟨ret_bool (by rw [HK.out]; simp), rfl⟩

theorem only_allowed (s : ByteArray) (w : World) (hs : s.size ≤ maxLen) :
    Calls Tryz.prog 265 #[.string s, .func (.func 286) #[] #[]] w fun e w' => e = .returned (.bool (V.only (V.kind V.allow) s.data.toList)) ∧ w = w' :=
  only_any s _ #[] (V.kind V.allow) w hs (enters_of Tryz.func286 (by kernel_rfl) rfl) (fun c => allowed_any c w)

set_option maxHeartbeats 800000 in
theorem allowed2_any (c : UInt8) (q : Nat) (w : World) (hq : w.cell? ⟨q, 0, none⟩ = some (.func (.func 286) #[] #[])) :
    Calls Tryz.prog 288 #[.int .u8 c.toNat, .pointer (some ⟨q, 0, none⟩)] w fun e w' => e = .returned (.bool (V.kind [46, 43, 126, 45] c)) ∧ w = w' := by
  have HK := Lib.hid (kind4 c)
  rcases hA : V.kind V.allow c with _ | _
  all_goals
    have HA := Lib.hid hA
    rw [hA] at HK
    clear hA
    go_enter Tryz.func288, Tryz.ntmps288
    go_wp2_with fail
    refine (allowed_any _ _).mono ?_
    rintro e w' ⟨rfl, rfl⟩
    simp only [HA.out]
    go_wp2
    go_ret
    exact ⟨ret_bool (by rw [HK.out]; simp), rfl⟩

theorem only_allowed2 (s : ByteArray) (q : Nat) (w : World) (hs : s.size ≤ maxLen) (hq : w.cell? ⟨q, 0, none⟩ = some (.func (.func 286) #[] #[])) :
    Calls Tryz.prog 265 #[.string s, .func (.func 288) #[] #[.pointer (some ⟨q, 0, none⟩)]] w fun e w' => e = .returned (.bool (V.only (V.kind [46, 43, 126, 45]) s.data.toList)) ∧ w = w' :=
  only_any s _ #[.pointer (some ⟨q, 0, none⟩)] (V.kind [46, 43, 126, 45]) w hs (enters_of Tryz.func288 (by kernel_rfl) rfl) (fun c => allowed2_any c q w hq)
end Go.Proofs.YtnhfaincdabdkaaGreatDoor
