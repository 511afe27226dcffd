/-
  Walk: the law VersionCompares.
-/
import Derived.Test.YtabeblbhbekjaaaDoorR10
import Derived.Test.YtabeblbhbekjaaaDoorF1
import Derived.Test.YtabeblbhbekjaaaDoorSC
namespace Go.Proofs.YtabeblbhbekjaaaDoor
open Go.RowKit

theorem compare_maxLen {s : ByteArray} (h : s.size ≤ 300) : s.size ≤ maxLen := by unfold maxLen; omega

set_option maxRecDepth 100000 in
set_option maxHeartbeats 1600000 in
theorem versionCompares_any (n : Int) (s t : ByteArray) (w : World) (hm : MaxOk w) (hn : (Lit.int .i64 n).wf = true) (hs : s.size ≤ maxLen) (ht : t.size ≤ maxLen) :
    Calls Tryd.prog 4 #[.int .i64 n, .string s, .string t] w fun e w' => e = .returned (.bool true) ∧ Below w.heap.size w w' := by
  have HM := Lib.hid hm
  have HN := Lib.hid hn
  unfold maxLen at hs ht
  clear hm hn
  by_cases h1 : 300 < s.size
  · go_enter Tryd.func4, Tryd.ntmps4
    go_wp2
    go_ret
    exact ⟨ret_bool rfl, Below.refl _ _⟩
  · by_cases h2 : 300 < t.size
    · go_enter Tryd.func4, Tryd.ntmps4
      go_wp2
      go_ret
      exact ⟨ret_bool rfl, Below.refl _ _⟩
    · have HS := Lib.hid (compare_maxLen (s := s) (by omega))
      have HT := Lib.hid (compare_maxLen (s := t) (by omega))
      have hs3 : s.size ≤ 300 := by omega
      have ht3 : t.size ≤ 300 := by omega
      clear h1 h2
      go_enter Tryd.func4, Tryd.ntmps4
      go_wp2_with fail
      refine (scheme_any n _ HN.out).mono ?_
      rintro e w' ⟨rfl, rfl⟩
      obtain ⟨m, hm⟩ : ∃ m, schemeOf n = m := ⟨_, rfl⟩
      rw [hm]
      clear hm
      go_wp2
      obtain ⟨W2, hW2⟩ : ∃ W2, W2 = w.alloc (.cells #[.int .i64 n, .int .i64 m] 3) := ⟨_, rfl⟩
      rw [← hW2]
      have hb2 : Below w.heap.size w W2 := by rw [hW2]; exact (Below.refl _ _).alloc (Nat.le_refl _) _
      have z2 : w.heap.size < W2.heap.size := by rw [hW2]; simp
      have hc2 : ∀ k, k < 2 → ∃ v, W2.cell? ⟨w.heap.size, k, none⟩ = some (.int .i64 v) := fun k hk => by
        have h2 : k = 0 ∨ k = 1 := by omega
        rcases h2 with rfl | rfl
        · exact ⟨n, by rw [hW2, World.cell?_alloc_new]; rfl⟩
        · exact ⟨m, by rw [hW2, World.cell?_alloc_new]; rfl⟩
      have HB2 := Lib.hid hb2
      have HC2 := Lib.hid hc2
      clear hb2 hc2 hW2
      go_loopw [26] (fun i wr => ∃ k : Nat, k ≤ 2 ∧ i = .int .i64 k ∧ Below W2.heap.size W2 wr) (fun i _ => 2 - (intOf i).toNat)
      case atStart => exact ⟨0, Nat.zero_le _, rfl, Below.refl _ _⟩
      case round =>
        obtain ⟨k, hk, rfl, hB⟩ := hrel
        have HB := Lib.hid hB
        have HBW := Lib.hid (HB2.out.trans (hB.mono HB2.out.size))
        clear hB
        by_cases hlt : k < 2
        · obtain ⟨v, hv⟩ := HC2.out k hlt
          have hc := (HB.out.cell (p := ⟨w.heap.size, k, none⟩) z2).trans hv
          clear hv
          go_wp2_with fail
          refine (compare_any v s t _ (HM.out.below HBW.out) HS.out HT.out).mono ?_
          rintro e w3 ⟨rfl, hb3⟩
          have HB3 := Lib.hid (HB.out.trans (hb3.mono HB.out.size))
          have HBW3 := Lib.hid (HB2.out.trans (HB3.out.mono HB2.out.size))
          clear hb3 hc
          go_wp2_with fail
          refine (rcompare_any v s t _ (HM.out.below HBW3.out) HS.out HT.out).mono ?_
          rintro e w4 ⟨rfl, hb4⟩
          have HB4 := Lib.hid (HB3.out.trans (hb4.mono HB3.out.size))
          clear hb4
          generalize (V.compareR v s.data.toList t.data.toList).1 = x at *
          generalize (V.compareR v s.data.toList t.data.toList).2 = y at *
          go_wp2
          go_roundw
          case rel => exact ⟨k + 1, by omega, by go_num, HB4.out⟩
          case measure => simp [intOf]; omega
        · go_wp2_with fail
          refine (awake_any _ (HM.out.below HBW.out)).mono ?_
          rintro e w5 ⟨rfl, hb5⟩
          have HB5 := Lib.hid (HBW.out.trans (hb5.mono HBW.out.size))
          clear hb5
          go_wp2
          go_ret
          exact ⟨ret_bool rfl, HB5.out⟩
end Go.Proofs.YtabeblbhbekjaaaDoor
