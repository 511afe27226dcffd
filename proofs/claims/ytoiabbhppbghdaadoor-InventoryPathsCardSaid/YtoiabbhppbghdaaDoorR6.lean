/-
  Walks: the reference of layer 6, which strings are versions.
-/
import Derived.Test.YtoiabbhppbghdaaDoorR4
import Derived.Test.YtoiabbhppbghdaaDoorR5
namespace Go.Proofs.YtoiabbhppbghdaaDoor
open Go.RowKit

theorem nonempty_of {s : ByteArray} (h : 1 ≤ s.size) : s.toList.isEmpty = false := by
  rw [Lib.toList_data]
  have : 0 < s.data.toList.length := by rw [bs_size]; omega
  cases hl : s.data.toList with
  | nil => rw [hl] at this; simp at this
  | cons => rfl

set_option maxRecDepth 100000 in
set_option maxHeartbeats 1600000 in
theorem rvalid_any (n : Int) (s : ByteArray) (w : World) (hm : MaxOk w) (hs : s.size ≤ maxLen) :
    Calls Tryd.prog 51 #[.int .i64 n, .string s] w fun e w' => e = .returned (.bool (V.valid n s.data.toList)) ∧ Below w.heap.size w w' := by
  unfold maxLen at hs
  have HM := Lib.hid hm
  clear hm
  by_cases hbad : s.size = 0 ∨ 64 < s.size
  · have HF : Hid (V.valid n s.data.toList = false) := Lib.hid (by
      unfold V.valid
      rw [bs_size]
      rcases hbad with h | h
      · rw [h]; rfl
      · have : decide (s.size ≤ 64) = false := by simp; omega
        rw [this]; simp)
    rcases hbad with h0 | h64
    · have he : s = ⟨#[]⟩ := bs_ext (by
        have : s.data.toList = [] := List.eq_nil_of_length_eq_zero (by rw [bs_size]; exact h0)
        rw [this])
      subst he
      go_enter Tryd.func51, Tryd.ntmps51
      go_wp2
      go_ret
      exact ⟨ret_bool HF.out.symm, Below.refl _ _⟩
    · have hne : s.toList.isEmpty = false := nonempty_of (by omega)
      have hne' : ¬ s.toList = [] := by simpa using hne
      go_enter Tryd.func51, Tryd.ntmps51
      go_wp2
      go_ret
      exact ⟨ret_bool HF.out.symm, Below.refl _ _⟩
  · have h1 : 1 ≤ s.size := by omega
    have h2 : s.size ≤ 64 := by omega
    have HF : Hid (V.valid n s.data.toList = V.schOk n s.data.toList) := Lib.hid (by
      unfold V.valid
      rw [bs_size]
      simp [h1, h2])
    have hne : s.toList.isEmpty = false := nonempty_of h1
    have hne' : ¬ s.toList = [] := by simpa using hne
    have hle64 : (s.size : Int) ≤ 64 := by omega
    clear hbad
    by_cases n1 : n = 1
    · subst n1
      have HS : Hid (V.schOk 1 s.data.toList = (V.semParse s.data.toList).isSome) := Lib.hid rfl
      go_enter Tryd.func51, Tryd.ntmps51
      go_wp2_with fail
      refine (rsemver_any s _ HM.out (by omega)).mono ?_
      rintro e w1 ⟨hb, he⟩
      rcases hp : V.semParse s.data.toList with _ | ⟨l, ids⟩
      · rw [hp] at he HS
        subst he
        go_wp2
        go_ret
        exact ⟨ret_bool (by rw [HF.out, HS.out]; rfl), hb⟩
      · rw [hp] at he HS
        obtain ⟨v, u, rfl, _, _⟩ := he
        go_wp2
        go_ret
        exact ⟨ret_bool (by rw [HF.out, HS.out]; rfl), hb⟩
    · by_cases n2 : n = 2
      · subst n2
        have HS : Hid (V.schOk 2 s.data.toList = (V.debParse s.data.toList).isSome) := Lib.hid rfl
        go_enter Tryd.func51, Tryd.ntmps51
        go_wp2_with fail
        refine (rdebian_any s _ HM.out (by omega)).mono ?_
        rintro e w1 ⟨hb, he⟩
        rcases hp : V.debParse s.data.toList with _ | ⟨E, U, R⟩
        · rw [hp] at he HS
          subst he
          go_wp2
          go_ret
          exact ⟨ret_bool (by rw [HF.out, HS.out]; rfl), hb⟩
        · rw [hp] at he HS
          obtain ⟨v, rfl, _⟩ := he
          go_wp2
          go_ret
          exact ⟨ret_bool (by rw [HF.out, HS.out]; rfl), hb⟩
      · by_cases n3 : n = 3
        · subst n3
          have HS : Hid (V.schOk 3 s.data.toList = (V.splitOn 46 s.data.toList).all fun x => V.numb x false) := Lib.hid rfl
          go_enter Tryd.func51, Tryd.ntmps51
          go_wp2_with fail
          refine (split_any s 46 _ HM.out (by omega)).mono ?_
          rintro e w4 ⟨rfl, hw4⟩
          have hle := splitOn_le 46 s.data.toList
          have hmem := Lib.hid (splitOn_mem 46 s.data.toList)
          rw [bs_size] at hle hmem
          obtain ⟨L0, hL0⟩ : ∃ L0, V.splitOn 46 s.data.toList = L0 := ⟨_, rfl⟩
          rw [hL0] at hw4 hle hmem HS ⊢
          have hcs := Lib.hid (split_cells hw4)
          have HB4 : Hid (Below w.heap.size w w4) := Lib.hid (by rw [hw4]; exact (Below.refl _ _).alloc (Nat.le_refl _) _)
          clear hw4 hL0
          have hnd : ∀ x : V.Bs, V.numb x false = V.digits x := fun x => by unfold V.numb; simp
          have HND := Lib.hid hnd
          clear hnd
          go_wp2
          go_loop [11] (fun i => ∃ k : Nat, k ≤ L0.length ∧ i = .int .i64 k ∧ (L0.take k).all (fun x => V.numb x false) = true) (fun i => L0.length - (intOf i).toNat)
          case atStart => exact ⟨0, Nat.zero_le _, rfl, rfl⟩
          case round =>
            obtain ⟨k, hk, rfl, hp⟩ := hrel
            have HQ := Lib.hid hp
            clear hp
            by_cases hlt : k < L0.length
            · have hc := hcs.out k hlt
              have hsz : L0[k].length ≤ s.size := hmem.out _ (List.getElem_mem hlt)
              have HT := Lib.hid (all_take' (p := fun x => V.numb x false) hlt)
              rcases hpk : V.digits L0[k] with _ | _
              all_goals
                have HPK := Lib.hid hpk
                clear hpk
                go_wp2_with fail
                refine (rdigits_any ⟨L0[k].toArray⟩ _ (by show L0[k].length ≤ _; unfold maxLen; omega)).mono ?_
                rintro e w' ⟨rfl, rfl⟩
                simp only [arr_list, HPK.out]
                go_wp2
              · go_ret
                exact ⟨ret_bool (by rw [HF.out, HS.out, all_no (k := k) hlt (by show V.numb _ false = false; rw [HND.out]; exact HPK.out)]), HB4.out⟩
              · go_round
                case rel => exact ⟨k + 1, by omega, by go_num, by rw [HT.out, HQ.out, HND.out]; exact HPK.out⟩
                case measure => simp [intOf]; omega
            · have ht : L0.take k = L0 := List.take_of_length_le (by omega)
              rw [ht] at HQ
              clear ht
              go_wp2
              go_ret
              exact ⟨ret_bool (by rw [HF.out, HS.out]; exact HQ.out.symm), HB4.out⟩
        · have HS : Hid (V.schOk n s.data.toList = false) := Lib.hid (by unfold V.schOk; simp [n1, n2, n3])
          have b1 : (n == 1) = false := by simpa using n1
          have b2 : (n == 2) = false := by simpa using n2
          have b3 : (n == 3) = false := by simpa using n3
          go_enter Tryd.func51, Tryd.ntmps51
          go_wp2
          go_ret
          exact ⟨ret_bool (by rw [HF.out, HS.out]), Below.refl _ _⟩
end Go.Proofs.YtoiabbhppbghdaaDoor
