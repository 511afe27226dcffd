/-
  Walk: pattern.Path.
-/
import Derived.Test.YtoiabbhppbghdaaS1
import Derived.Test.YtoiabbhppbghdaaQP
import Derived.Test.YtoiabbhppbghdaaJV
namespace Go.Proofs.Ytoiabbhppbghdaa
open Go.RowKit

theorem indexByte_lt (l : V.Bs) (c : UInt8) : (0 ≤ Lib.indexByte l c) ↔ c ∈ l := decide_eq_decide.1 (V.indexByte_mem l c)

theorem path_short {s : V.Bs} (h : s.length < 1 ∨ 200 < s.length) : V.pathOk s = false := by
  unfold V.pathOk
  rcases h with h | h
  · have : decide (1 ≤ s.length) = false := decide_eq_false (by omega)
    rw [this]; rfl
  · have : decide (s.length ≤ 200) = false := decide_eq_false (by omega)
    rw [this]; simp
theorem path_zero {s : V.Bs} (h : (0 : UInt8) ∈ s) : V.pathOk s = false := by
  unfold V.pathOk; simp [h]
theorem path_rest {s : V.Bs} (h1 : 1 ≤ s.length) (h2 : s.length ≤ 200) (h3 : (0 : UInt8) ∉ s) : V.pathOk s = V.partsOk s := by
  unfold V.pathOk; simp [h1, h2, h3]

set_option maxRecDepth 100000 in
set_option maxHeartbeats 1600000 in
theorem path_any (s : ByteArray) (w : World) (hm : MaxOk w) (hs : s.size ≤ maxLen) :
    Calls Try.prog 51 #[.string s] w fun e w' => e = .returned (.bool (V.pathOk s.data.toList)) ∧ Below w.heap.size w w' := by
  have HM := Lib.hid hm
  unfold maxLen at hs
  clear hm
  by_cases h1 : s.size < 1
  · have HR := Lib.hid (path_short (s := s.data.toList) (.inl (by rw [bs_size]; exact h1)))
    go_enter Try.func51, Try.ntmps51
    go_wp2
    go_ret
    exact ⟨ret_bool HR.out.symm, Below.refl _ _⟩
  · by_cases h2 : 200 < s.size
    · have HR := Lib.hid (path_short (s := s.data.toList) (.inr (by rw [bs_size]; exact h2)))
      go_enter Try.func51, Try.ntmps51
      go_wp2
      go_ret
      exact ⟨ret_bool HR.out.symm, Below.refl _ _⟩
    · have h1' : 1 ≤ s.size := by omega
      have h2' : s.size ≤ 200 := by omega
      clear h1 h2
      by_cases hz : (0 : UInt8) ∈ s.data.toList
      · have HR := Lib.hid (path_zero hz)
        have HI : 0 ≤ Lib.indexByte s.data.toList 0 := (indexByte_lt s.data.toList 0).2 hz
        clear hz
        go_enter Try.func51, Try.ntmps51
        go_wp2_with fail
        refine (Try.strings_IndexByte s 0 _).mono ?_
        rintro e w' ⟨rfl, rfl⟩
        rw [show ((0 : Int).toNat.toUInt8) = (0 : UInt8) from rfl]
        generalize Lib.indexByte s.data.toList 0 = ib at *
        go_wp2
        go_ret
        exact ⟨ret_bool HR.out.symm, Below.refl _ _⟩
      · have HR := Lib.hid (path_rest (s := s.data.toList) (by rw [bs_size]; exact h1') (by rw [bs_size]; exact h2') hz)
        have HI : ¬ 0 ≤ Lib.indexByte s.data.toList 0 := fun g => hz ((indexByte_lt s.data.toList 0).1 g)
        clear hz
        go_enter Try.func51, Try.ntmps51
        go_wp2_with fail
        refine (Try.strings_IndexByte s 0 _).mono ?_
        rintro e w' ⟨rfl, rfl⟩
        rw [show ((0 : Int).toNat.toUInt8) = (0 : UInt8) from rfl]
        generalize Lib.indexByte s.data.toList 0 = ib at *
        go_wp2
        go_loopw [0, 3] (fun sv mo wr => ∃ (x : ByteArray) (more : Bool), sv = .string x ∧ mo = .bool more ∧ x.size ≤ s.size ∧ V.pathOk s.data.toList = (if more then V.partsOk x.data.toList else true) ∧ Below w'.heap.size w' wr) (fun sv mo _ => (match sv with | .string x => x.size | _ => 0) + (match mo with | .bool true => 1 | _ => 0))
        case atStart => exact ⟨s, true, rfl, rfl, Nat.le_refl _, HR.out, Below.refl _ _⟩
        case round =>
          obtain ⟨x, more, rfl, rfl, hx, hp, hb⟩ := hrel
          have HB := Lib.hid hb
          have HP := Lib.hid hp
          clear hb hp
          rcases more with _ | _
          · go_wp2
            go_ret
            exact ⟨ret_bool HP.out.symm, HB.out⟩
          · have hcl := cut1_len 47 x.data.toList
            have HC := Lib.hid (V.parts_cut x.data.toList)
            have HD := Lib.hid (V.partOk_cases (V.cut1 47 x.data.toList).1)
            have HS : Hid ((V.cut1 47 x.data.toList).2.2 = true → (V.cut1 47 x.data.toList).2.1.length < x.size) := Lib.hid (fun h => by
              have := congrArg List.length (V.cut_whole 47 x.data.toList h)
              rw [bs_size] at this
              simp at this; omega)
            rw [bs_size] at hcl
            go_wp2_with fail
            refine (cut_any x 47 _ (HM.out.below HB.out) (by omega)).mono ?_
            rintro e w1 ⟨rfl, hb1⟩
            have HB1 := Lib.hid (HB.out.trans (hb1.mono HB.out.size))
            clear hb1
            generalize (V.cut1 47 x.data.toList).1 = p at *
            generalize (V.cut1 47 x.data.toList).2.1 = q at *
            generalize (V.cut1 47 x.data.toList).2.2 = more at *
            rcases HD.out with ⟨rfl, e⟩ | ⟨rfl, e⟩ | ⟨rfl, e⟩ | ⟨e1, e2, e3, e⟩
            · have HE := Lib.hid e
              clear HD e
              go_wp2
              go_ret
              refine ⟨ret_bool ?_, HB1.out⟩
              rw [HP.out, if_pos (by trivial), HC.out, HE.out]
              cases more <;> rfl
            · have HE := Lib.hid e
              clear HD e
              go_wp2
              go_ret
              refine ⟨ret_bool ?_, HB1.out⟩
              rw [HP.out, if_pos (by trivial), HC.out, HE.out]
              cases more <;> rfl
            · have HE := Lib.hid e
              clear HD e
              go_wp2
              go_ret
              refine ⟨ret_bool ?_, HB1.out⟩
              rw [HP.out, if_pos (by trivial), HC.out, HE.out]
              cases more <;> rfl
            · have HE := Lib.hid e
              clear HD e
              have HT : Hid (V.pathOk s.data.toList = if more then V.partsOk q else true) := Lib.hid (by
                rw [HP.out, if_pos (by trivial), HC.out, HE.out]; cases more <;> rfl)
              clear HC HP
              go_wp2
              go_roundw
              case rel => exact ⟨⟨q.toArray⟩, more, rfl, rfl, by show q.toArray.size ≤ _; simp; omega, by rw [bs_mk]; exact HT.out, HB1.out⟩
              case measure =>
                have hq : (⟨q.toArray⟩ : ByteArray).size = q.length := by show q.toArray.size = _; simp
                have := HS.out
                rcases more with _ | _
                · simp [hq]; omega
                · have := this rfl
                  simp [hq]; omega
end Go.Proofs.Ytoiabbhppbghdaa
