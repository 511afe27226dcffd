/-
  Walk: the reference's Path.
-/
import Derived.Test.YtpjjkbdkgaehkaaGreatDoorJD
import Derived.Test.YtpjjkbdkgaehkaaGreatDoorSL
import Derived.Test.YtpjjkbdkgaehkaaGreatDoorR6
namespace Go.Proofs.YtpjjkbdkgaehkaaGreatDoor
open Go.RowKit

set_option maxRecDepth 100000 in
set_option maxHeartbeats 1600000 in
theorem rpath_any (s : ByteArray) (w : World) (hm : MaxOk w) (hs : s.size ≤ maxLen) :
    Calls Tryz.prog 63 #[.string s] w fun e w' => e = .returned (.bool (V.pathOk s.data.toList)) ∧ Below w.heap.size w w' := by
  have HM := Lib.hid hm
  unfold maxLen at hs
  clear hm
  by_cases h1 : s.size < 1
  · have HR := Lib.hid (path_short (s := s.data.toList) (.inl (by rw [bs_size]; exact h1)))
    have he : s = ⟨#[]⟩ := bs_ext (by
      have : s.data.toList = [] := List.eq_nil_of_length_eq_zero (by rw [bs_size]; omega)
      rw [this])
    subst he
    go_enter Tryz.func63, Tryz.ntmps63
    go_wp2
    go_ret
    exact ⟨ret_bool HR.out.symm, Below.refl _ _⟩
  · have hne : s.toList.isEmpty = false := by
      rw [Lib.toList_data]
      rcases hd : s.data.toList with _ | ⟨c, r⟩
      · have := bs_size s; rw [hd] at this; simp at this; omega
      · rfl
    have hne' : ¬ s.toList = [] := by simpa using hne
    by_cases h2 : 200 < s.size
    · have HR := Lib.hid (path_short (s := s.data.toList) (.inr (by rw [bs_size]; exact h2)))
      go_enter Tryz.func63, Tryz.ntmps63
      go_wp2
      go_ret
      exact ⟨ret_bool HR.out.symm, Below.refl _ _⟩
    · have h1' : 1 ≤ s.size := by omega
      have h2' : s.size ≤ 200 := by omega
      clear h1 h2
      go_enter Tryz.func63, Tryz.ntmps63
      go_wp2
      go_loop [3] (fun i => ∃ k : Nat, k ≤ s.size ∧ i = .int .i64 k ∧ (s.data.toList.take k).all (fun c => c != 0) = true) (fun i => s.size - (intOf i).toNat)
      case atStart => exact ⟨0, Nat.zero_le _, rfl, rfl⟩
      case round =>
        obtain ⟨k, hk, rfl, hp⟩ := hrel
        have HP := Lib.hid hp
        clear hp
        by_cases hlt : k < s.size
        · have hl : k < s.data.toList.length := by rw [bs_size]; exact hlt
          have HT := Lib.hid (V.all_take (p := fun c => c != 0) hl)
          have he : s.data.toList[k] = s[k] := by simp; rfl
          by_cases h0 : s[k] = 0
          · have HR := Lib.hid (path_zero (s := s.data.toList) (by rw [← h0, ← he]; exact List.getElem_mem _))
            have h0' : ((s[k]).toNat : Int) = 0 := by rw [h0]; rfl
            clear he
            go_wp2
            go_ret
            exact ⟨ret_bool HR.out.symm, Below.refl _ _⟩
          · have h0' : ¬ ((s[k]).toNat : Int) = 0 := fun e => h0 (UInt8.toNat_inj.1 (show (s[k]).toNat = 0 by omega))
            have HN : Hid ((s[k] != 0) = true) := Lib.hid (by simpa using h0)
            have HE := Lib.hid he
            clear he
            go_wp2
            go_round
            case rel => exact ⟨k + 1, by omega, by go_num, by rw [HT.out, HP.out, HE.out, HN.out]; rfl⟩
            case measure => simp [intOf]; omega
        · have hz : (0 : UInt8) ∉ s.data.toList := by
            have hp := HP.out
            rw [List.take_of_length_le (by rw [bs_size]; omega), List.all_eq_true] at hp
            intro g
            have := hp 0 g
            simp at this
          have HR := Lib.hid (path_rest (s := s.data.toList) (by rw [bs_size]; exact h1') (by rw [bs_size]; exact h2') hz)
          clear hz HP
          go_wp2_with fail
          refine (split_any s 47 _ HM.out (by omega)).mono ?_
          rintro e w1 ⟨rfl, hw1⟩
          have hs1 := Strs.split w (V.splitOn 47 s.data.toList) 9
          rw [← hw1] at hs1
          have hb1 : Below w.heap.size w w1 := by rw [hw1]; exact (Below.refl _ w).alloc (Nat.le_refl _) _
          have HB1 := Lib.hid hb1
          have HS := Lib.hid hs1
          have HA : Hid (V.pathOk s.data.toList = (V.splitOn 47 s.data.toList).all V.partOk) := HR
          have hnl : (V.splitOn 47 s.data.toList).length ≤ 201 := by have := splitOn_le 47 s.data.toList; rw [bs_size] at this; omega
          clear hw1 hs1 hb1
          generalize V.splitOn 47 s.data.toList = P at *
          go_wp2
          go_loop [5] (fun i => ∃ k : Nat, k ≤ P.length ∧ i = .int .i64 k ∧ (P.take k).all V.partOk = true) (fun i => P.length - (intOf i).toNat)
          case atStart => exact ⟨0, Nat.zero_le _, rfl, rfl⟩
          case round =>
            obtain ⟨k, hk, rfl, hp⟩ := hrel
            have HP := Lib.hid hp
            clear hp
            by_cases hlt : k < P.length
            · obtain ⟨b, off, e, _, hcell⟩ := HS.out.at k hlt
              cases e
              rw [Nat.zero_add] at hcell
              have HT := Lib.hid (all_take' (p := V.partOk) hlt)
              have hg : P.getD k [] = P[k] := by rw [List.getD_eq_getElem?_getD, List.getElem?_eq_getElem hlt]; rfl
              rw [hg] at hcell
              have HIn : Hid (V.partOk P[k] = false → P.all V.partOk = false) := Lib.hid fun h => by
                rw [← Bool.not_eq_true, List.all_eq_true]
                intro g
                rw [g _ (List.getElem_mem hlt)] at h; cases h
              have HD := Lib.hid (V.partOk_cases P[k])
              generalize P[k] = p at *
              clear hg
              rcases HD.out with ⟨rfl, e⟩ | ⟨rfl, e⟩ | ⟨rfl, e⟩ | ⟨e1, e2, e3, e⟩
              · have HE := Lib.hid (HIn.out e)
                clear HD e
                go_wp2
                go_ret
                exact ⟨ret_bool (by rw [HA.out, HE.out]), HB1.out⟩
              · have HE := Lib.hid (HIn.out e)
                clear HD e
                go_wp2
                go_ret
                exact ⟨ret_bool (by rw [HA.out, HE.out]), HB1.out⟩
              · have HE := Lib.hid (HIn.out e)
                clear HD e
                go_wp2
                go_ret
                exact ⟨ret_bool (by rw [HA.out, HE.out]), HB1.out⟩
              · have HE := Lib.hid e
                clear HD e
                go_wp2
                go_round
                case rel => exact ⟨k + 1, by omega, by go_num, by rw [HT.out, HP.out, HE.out]; rfl⟩
                case measure => simp [intOf]; omega
            · have hall := HP.out
              rw [List.take_of_length_le (by omega)] at hall
              have HL := Lib.hid hall
              clear hall
              go_wp2
              go_ret
              exact ⟨ret_bool (by rw [HA.out, HL.out]), HB1.out⟩
end Go.Proofs.YtpjjkbdkgaehkaaGreatDoor
