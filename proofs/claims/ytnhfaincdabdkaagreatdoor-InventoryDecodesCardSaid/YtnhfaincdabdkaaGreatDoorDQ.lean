/-
  Walk: document.Unword. (Printed by gen_DQ.py.)
-/
import Derived.Test.YtnhfaincdabdkaaGreatDoorDB
import Derived.Test.YtnhfaincdabdkaaGreatDoorPG
import Derived.Deep.RegionHeld3
import Derived.Lib.BufferRead
namespace Go.Proofs.YtnhfaincdabdkaaGreatDoor
open Go.RowKit

def V.unwP (s : V.Bs) : V.Bs × Bool := match V.unwR s with | some w => (w, true) | none => ([], false)
theorem digU_val : ∀ n : Fin 256, Lib.indexByte (ByteArray.mk #[48, 49, 50, 51, 52, 53, 54, 55, 56, 57, 65, 66, 67, 68, 69, 70]).data.toList (UInt8.ofNat n.val) = (match V.hexV (UInt8.ofNat n.val) with | some x => (x : Int) | none => -1) := by decide +kernel
/-- a digit's value, or a number for none -/
def dvB (bad : Int) (c : UInt8) : Int := match V.hexV c with | some x => (x : Int) | none => bad
theorem digIdx_any (c : UInt8) (w : World) : Calls Tryz.prog 131 #[.string (ByteArray.mk #[48, 49, 50, 51, 52, 53, 54, 55, 56, 57, 65, 66, 67, 68, 69, 70]), .int .u8 c.toNat] w fun e w' => e = .returned (.int .i64 (dvB (-1) c)) ∧ w' = w := by
  refine (Tryz.strings_IndexByte (ByteArray.mk #[48, 49, 50, 51, 52, 53, 54, 55, 56, 57, 65, 66, 67, 68, 69, 70]) c.toNat w).mono ?_
  rintro e w' ⟨rfl, rfl⟩
  refine ⟨?_, rfl⟩
  have h := digU_val ⟨c.toNat, c.toNat_lt⟩
  simp only [UInt8.ofNat_toNat] at h
  have e : ((c.toNat : Int)).toNat.toUInt8 = c := by simp
  rw [e, h]
  rfl
theorem unwP_end {S out : V.Bs} (h1 : S ≠ [126]) (h2 : V.unwGo S = some out) (h3 : out ≠ []) : V.unwP S = (out, true) := by
  unfold V.unwP V.unwR
  rw [if_neg h1, h2]
  simp [h3]
theorem unwP_none {S : V.Bs} (h1 : S ≠ [126]) (h2 : V.unwGo S = none) : V.unwP S = ([], false) := by
  unfold V.unwP V.unwR
  rw [if_neg h1, h2]
theorem conv_nil (w : World) : (convert 22 9 (.slice none 0 0)).run Tryz.prog w = .ok (.string ⟨#[]⟩) w :=
  Lib.run_convert_nil_bytes w _ _ _ 0 Tryz.underlying22 Tryz.underlying5 Tryz.underlying9

set_option maxRecDepth 100000 in
set_option maxHeartbeats 3200000 in
theorem docUnword_any (s : ByteArray) (w : World) (hs : s.size ≤ 1000000) : Calls Tryz.prog 91 #[.string s] w fun e w' => e = .returned (.tuple #[.string ⟨(V.unwP s.data.toList).1.toArray⟩, .bool (V.unwP s.data.toList).2]) ∧ Below w.heap.size w w' := by
  by_cases h126 : s.data.toList = [126]
  · have hs1 : s = ⟨#[126]⟩ := bs_ext (by rw [h126])
    subst hs1
    go_enter Tryz.func91, Tryz.ntmps91
    go_wp2
    go_ret2
    exact ⟨rfl, Below.refl _ _⟩
  · have HN := Lib.hid h126
    have hne : (s.data.toList == [126]) = false := beq_eq_false_iff_ne.2 h126
    have hne4 : (s.toList == [126]) = false := by rw [Lib.toList_data]; exact hne
    clear h126
    go_enter Tryz.func91, Tryz.ntmps91
    go_wp2
    go_loopw [4, 5] (fun ov iv wx => ∃ (k : Nat) (out : V.Bs), k ≤ s.size ∧ iv = .int .i64 k ∧ Buf w.heap.size ov out w wx ∧ V.unwGo s.data.toList = (V.unwGo (s.data.toList.drop k)).map (out ++ ·) ∧ out.length ≤ k ∧ (0 < k → out ≠ []) ∧ (k = 0 → ov = .slice none 0 0)) (fun _ iv _ => s.size - (intOf iv).toNat)
    case atStart => exact ⟨0, [], Nat.zero_le _, rfl, Buf.nil (Below.refl _ _) (Nat.le_refl _), by simp, Nat.le_refl _, fun h => absurd h (by omega), fun _ => rfl⟩
    case round =>
      obtain ⟨k, out, hk, rfl, hb, hg, hol, hpos, hk0⟩ := hrel
      have HB := Lib.hid hb
      obtain ⟨oa, oc, rfl⟩ := hb.slice
      have hl := bs_size s
      clear hb
      by_cases hlt : k < s.size
      · have hk0c := hk0
        clear hk0 hpos
        have HAT := Lib.hid (V.unw_at hg (k := k) (by omega))
        have he : s.data.toList[k]'(by omega) = s[k] := by simp; rfl
        have hs1 : (0 : Int) ≤ (k : Int) := by omega
        have hs2 : (k : Int) < (s.size : Int) := by omega
        obtain ⟨c, hc⟩ : ∃ c, c = s[k] := ⟨_, rfl⟩
        rw [he, ← hc] at HAT
        have HC := Lib.hid hc
        have hc256 := c.toNat_lt
        clear he hc hg hk0c
        go_wp2_with fail
        rw [← HC.out]
        refine (docPlain_any c wr).mono ?_
        rintro e w2 ⟨rfl, rfl⟩
        rcases hp : V.plainB c with _ | _
        · by_cases hc37 : c = 37
          · have hq37 : ((c.toNat : Int) == 37) = true := by rw [hc37]; rfl
            by_cases hsh : s.size < k + 3
            · have HUW : Hid (V.unwP s.data.toList = ([], false)) := Lib.hid (unwP_none HN.out (HAT.out.2.2.1 hc37 (by omega)))
              have hq1 : IntKind.i64.wrap ((k : Int) + 2) = (k : Int) + 2 := by unfold IntKind.wrap; simp [IntKind.signed, IntKind.bits]; omega
              have hq2 : (s.size : Int) ≤ (k : Int) + 2 := by omega
              have hq3 : IntKind.i64.wrap ((s.size : Int) - (k : Int)) = (s.size : Int) - (k : Int) := by unfold IntKind.wrap; simp [IntKind.signed, IntKind.bits]; omega
              have hq4 : (s.size : Int) - (k : Int) < 3 := by omega
              subst hc37
              have hq5 : s[k] = 37 := HC.out.symm
              have HBE := Lib.hid HB.out.2.1
              clear hp HAT HC hq37
              go_wp2
              go_ret2
              exact ⟨by rw [HUW.out]; rfl, HBE.out⟩
            · have he1 : s.data.toList[k + 1]'(by omega) = s[k + 1]'(by omega) := by simp; rfl
              have he2 : s.data.toList[k + 2]'(by omega) = s[k + 2]'(by omega) := by simp; rfl
              obtain ⟨c1, hc1⟩ : ∃ c1, c1 = s[k + 1]'(by omega) := ⟨_, rfl⟩
              obtain ⟨c2, hc2⟩ : ∃ c2, c2 = s[k + 2]'(by omega) := ⟨_, rfl⟩
              have HC1 : Hid (s.data.toList[((k : Int) + 1).toNat]? = some c1) := Lib.hid (by rw [show ((k : Int) + 1).toNat = k + 1 by omega, List.getElem?_eq_getElem (by omega), he1, ← hc1])
              have HC2 : Hid (s.data.toList[((k : Int) + 2).toNat]? = some c2) := Lib.hid (by rw [show ((k : Int) + 2).toNat = k + 2 by omega, List.getElem?_eq_getElem (by omega), he2, ← hc2])
              have A1 : Hid (V.hexV c1 = none ∨ V.hexV c2 = none → V.unwGo s.data.toList = none) := Lib.hid (fun h => HAT.out.2.2.2.1 (by omega) hc37 (by rw [he1, he2, ← hc1, ← hc2]; exact h))
              have h3 : k + 2 < s.data.toList.length := by omega
              have A2 := Lib.hid (fun (x y : Nat) (hx : V.hexV c1 = some x) (hy : V.hexV c2 = some y) => HAT.out.2.2.2.2 h3 x y hc37 (by rw [he1, ← hc1]; exact hx) (by rw [he2, ← hc2]; exact hy))
              have hq1 : IntKind.i64.wrap ((k : Int) + 1) = (k : Int) + 1 := by unfold IntKind.wrap; simp [IntKind.signed, IntKind.bits]; omega
              have hq2 : IntKind.i64.wrap ((k : Int) + 2) = (k : Int) + 2 := by unfold IntKind.wrap; simp [IntKind.signed, IntKind.bits]; omega
              have hq3 : IntKind.i64.wrap ((s.size : Int) - (k : Int)) = (s.size : Int) - (k : Int) := by unfold IntKind.wrap; simp [IntKind.signed, IntKind.bits]; omega
              have hq4 : ¬ (s.size : Int) - (k : Int) < 3 := by omega
              have hq6 : ¬ (s.size : Int) ≤ (k : Int) + 2 := by omega
              have hle : k + 3 ≤ s.size := by omega
              subst hc37
              have hq5 : s[k] = 37 := HC.out.symm
              clear hp HAT HC hq37 hc1 hc2 he1 he2 hsh h3
              go_wp2_with fail
              refine wp_region_held_drew (S := (fun W' => Below w2.heap.size w2 W')) (by kernel_rfl) (by (try dsimp only); exact (Below.refl _ w2).drew) (fun hHeld => ?_)
              refine wpAnyH_take (i := 0) (v := ?_) rfl (by kernel_rfl) (by kernel_rfl) (by kernel_rfl) (fun _ _ _ h => h) (Or.inl ⟨by rfl, ?_⟩) (by assumption) ?_
              rotate_left
              · (intro w' hSw; (try dsimp only at hSw); go_simp; try with_reducible rfl)
              try simp only [List.getElem_toArray, List.getElem_cons_zero, Act.put, List.setIfInBounds_toArray, List.set_cons_succ, List.set_cons_zero]
              refine wpAnyH_take (i := 1) (v := ?_) rfl (by kernel_rfl) (by kernel_rfl) (by kernel_rfl) (fun _ _ _ h => h) (Or.inl ⟨by rfl, ?_⟩) (by assumption) ?_
              rotate_left
              · (intro w' hSw; (try dsimp only at hSw); go_simp; try with_reducible rfl)
              try simp only [List.getElem_toArray, List.getElem_cons_succ, List.getElem_cons_zero, Act.put, List.setIfInBounds_toArray, List.set_cons_succ, List.set_cons_zero]
              refine wpAnyH_take (i := 2) (v := (.int .i64 ((k : Int) + 1))) rfl (by kernel_rfl) (by kernel_rfl) (by kernel_rfl) (fun _ _ _ h => h) (Or.inl ⟨by rfl, fun w' hSw => by go_simp; try rfl⟩) (by assumption) ?_
              try simp only [List.getElem_toArray, List.getElem_cons_succ, List.getElem_cons_zero, Act.put, List.setIfInBounds_toArray, List.set_cons_succ, List.set_cons_zero]
              refine wpAnyH_take (i := 3) (v := (.int .u8 c1.toNat)) rfl (by kernel_rfl) (by kernel_rfl) (by kernel_rfl) (fun _ _ _ h => h) (Or.inl ⟨by rfl, fun w' hSw => ex_index rfl rfl rfl (by omega) HC1.out⟩) (by assumption) ?_
              try simp only [List.getElem_toArray, List.getElem_cons_succ, List.getElem_cons_zero, Act.put, List.setIfInBounds_toArray, List.set_cons_succ, List.set_cons_zero]
              refine wpAnyH_take (i := 5) (v := ?_) rfl (by kernel_rfl) (by kernel_rfl) (by kernel_rfl) (fun _ _ _ h => h) (Or.inl ⟨by rfl, ?_⟩) (by assumption) ?_
              rotate_left
              · (intro w' hSw; (try dsimp only at hSw); go_simp; try with_reducible rfl)
              try simp only [List.getElem_toArray, List.getElem_cons_succ, List.getElem_cons_zero, Act.put, List.setIfInBounds_toArray, List.set_cons_succ, List.set_cons_zero]
              refine wpAnyH_take (i := 6) (v := ?_) rfl (by kernel_rfl) (by kernel_rfl) (by kernel_rfl) (fun _ _ _ h => h) (Or.inl ⟨by rfl, ?_⟩) (by assumption) ?_
              rotate_left
              · (intro w' hSw; (try dsimp only at hSw); go_simp; try with_reducible rfl)
              try simp only [List.getElem_toArray, List.getElem_cons_succ, List.getElem_cons_zero, Act.put, List.setIfInBounds_toArray, List.set_cons_succ, List.set_cons_zero]
              refine wpAnyH_take (i := 7) (v := (.int .i64 ((k : Int) + 2))) rfl (by kernel_rfl) (by kernel_rfl) (by kernel_rfl) (fun _ _ _ h => h) (Or.inl ⟨by rfl, fun w' hSw => by go_simp; try rfl⟩) (by assumption) ?_
              try simp only [List.getElem_toArray, List.getElem_cons_succ, List.getElem_cons_zero, Act.put, List.setIfInBounds_toArray, List.set_cons_succ, List.set_cons_zero]
              refine wpAnyH_take (i := 8) (v := (.int .u8 c2.toNat)) rfl (by kernel_rfl) (by kernel_rfl) (by kernel_rfl) (fun _ _ _ h => h) (Or.inl ⟨by rfl, fun w' hSw => ex_index rfl rfl rfl (by omega) HC2.out⟩) (by assumption) ?_
              try simp only [List.getElem_toArray, List.getElem_cons_succ, List.getElem_cons_zero, Act.put, List.setIfInBounds_toArray, List.set_cons_succ, List.set_cons_zero]
              refine wpAnyH_ready (rs := [4]) (by kernel_rfl) (by simp) ?_
              refine AllReadyH.cons (o := _) rfl (fun K hK => ?_) AllReadyH.nil
              go_simp
              refine (digIdx_any c1 _).mono ?_
              rintro e wA ⟨rfl, rfl⟩
              try dsimp only
              refine hK.out _ _ ?_ (fun hHeld => ?_)
              · (try dsimp only); exact (Below.refl _ w2).drew
              clear hK K
              try simp only [List.getElem_toArray, List.getElem_cons_succ, List.getElem_cons_zero, Act.put, List.setIfInBounds_toArray, List.set_cons_succ, List.set_cons_zero]
              refine wpAnyH_ready (rs := [9]) (by kernel_rfl) (by simp) ?_
              refine AllReadyH.cons (o := _) rfl (fun K hK => ?_) AllReadyH.nil
              go_simp
              refine (digIdx_any c2 _).mono ?_
              rintro e wB ⟨rfl, rfl⟩
              try dsimp only
              refine hK.out _ _ ?_ (fun hHeld => ?_)
              · (try dsimp only); exact (Below.refl _ w2).drew
              clear hK K
              try simp only [List.getElem_toArray, List.getElem_cons_succ, List.getElem_cons_zero, Act.put, List.setIfInBounds_toArray, List.set_cons_succ, List.set_cons_zero]
              refine wpAnyH_take (i := 10) (v := ?_) rfl (by kernel_rfl) (by kernel_rfl) (by kernel_rfl) (fun _ _ _ h => h) (Or.inl ⟨by rfl, ?_⟩) (by assumption) ?_
              rotate_left
              · (intro w' hSw; (try dsimp only at hSw); go_simp; try with_reducible rfl)
              try simp only [List.getElem_toArray, List.getElem_cons_succ, List.getElem_cons_zero, Act.put, List.setIfInBounds_toArray, List.set_cons_succ, List.set_cons_zero]
              refine wpAnyH_take (i := 11) (v := ?_) rfl (by kernel_rfl) (by kernel_rfl) (by kernel_rfl) (fun _ _ _ h => h) (Or.inl ⟨by rfl, ?_⟩) (by assumption) ?_
              rotate_left
              · (intro w' hSw; (try dsimp only at hSw); go_simp; try with_reducible rfl)
              try simp only [List.getElem_toArray, List.getElem_cons_succ, List.getElem_cons_zero, Act.put, List.setIfInBounds_toArray, List.set_cons_succ, List.set_cons_zero]
              refine wpAnyH_done (by kernel_rfl) ?_ _
              have HBD := Lib.hid (HB.out.below (Below.refl _ w2).drew)
              clear hHeld HB HC1 HC2
              generalize w2.drew = w3 at *
              rcases hx : V.hexV c1 with _ | x
              · have HUW : Hid (V.unwP s.data.toList = ([], false)) := Lib.hid (unwP_none HN.out (A1.out (.inl hx)))
                have hd1 : dvB (-1) c1 = (-1) := by unfold dvB; rw [hx]
                have HBE := Lib.hid HBD.out.2.1
                clear hx A1 A2
                go_wp2
                go_ret2
                exact ⟨by rw [HUW.out]; rfl, HBE.out⟩
              · have hd1 : dvB (-1) c1 = (x : Int) := by unfold dvB; rw [hx]
                have hx16 := V.hexV_lt hx
                have hxn : ¬ (x : Int) < 0 := by omega
                have hxe : ((x : Int) == 16) = false := by rw [beq_eq_false_iff_ne]; omega
                rcases hy : V.hexV c2 with _ | y
                · have HUW : Hid (V.unwP s.data.toList = ([], false)) := Lib.hid (unwP_none HN.out (A1.out (.inr hy)))
                  have hd2 : dvB (-1) c2 = (-1) := by unfold dvB; rw [hy]
                  have HBE := Lib.hid HBD.out.2.1
                  clear hx hy A1 A2
                  go_wp2
                  go_ret2
                  exact ⟨by rw [HUW.out]; rfl, HBE.out⟩
                · have hd2 : dvB (-1) c2 = (y : Int) := by unfold dvB; rw [hy]
                  have hy16 := V.hexV_lt hy
                  have hyn : ¬ (y : Int) < 0 := by omega
                  have hye : ((y : Int) == 16) = false := by rw [beq_eq_false_iff_ne]; omega
                  have HA := Lib.hid (A2.out x y hx hy)
                  clear hx hy A1 A2
                  obtain ⟨v, hv⟩ : ∃ v, v = UInt8.ofNat (16 * x + y) := ⟨_, rfl⟩
                  have hvv : (v.toNat : Int) = 16 * (x : Int) + (y : Int) := by rw [hv]; simp; omega
                  rw [← hv] at HA
                  clear hv
                  have hw1 : IntKind.i64.wrap (16 * (x : Int)) = 16 * (x : Int) := by unfold IntKind.wrap; simp [IntKind.signed, IntKind.bits]; omega
                  have hw2 : IntKind.i64.wrap (16 * (x : Int) + (y : Int)) = 16 * (x : Int) + (y : Int) := by unfold IntKind.wrap; simp [IntKind.signed, IntKind.bits]; omega
                  have hw3 : IntKind.u8.wrap (16 * (x : Int) + (y : Int)) = 16 * (x : Int) + (y : Int) := by unfold IntKind.wrap; simp [IntKind.signed, IntKind.bits]; omega
                  have HVV := Lib.hid hvv
                  clear hvv
                  have HPL := docPlain_any v w3
                  rw [HVV.out] at HPL
                  have HPL := Lib.hid HPL
                  go_wp2_with fail
                  refine HPL.out.mono ?_
                  rintro e w4 ⟨rfl, rfl⟩
                  clear HPL
                  rcases hp2 : V.plainB v with _ | _
                  · have HNX := Lib.hid (HA.out.2 hp2)
                    have HB2 : Hid (Buf w.heap.size (.slice oa out.length oc) out w (w4.alloc (.cells #[.int .u8 (16 * (x : Int) + (y : Int))] 5))) := Lib.hid (HBD.out.below ((Below.refl _ w4).alloc (Nat.le_refl _) _))
                    have HBN : Hid (∀ j u, (bvals [v])[j]? = some u → (w4.alloc (.cells #[.int .u8 (16 * (x : Int) + (y : Int))] 5)).cell? ⟨w4.heap.size, j, none⟩ = some u) := Lib.hid (by rw [← HVV.out]; exact bytes_new [v] w4)
                    clear hp2 HA
                    go_wp2_with (first | (refine wl_bytes rfl _ _ rfl w.heap.size (.slice oa out.length oc) out w rfl HB2.out w4.heap.size 1 [v] rfl HBN.out (by simp; omega) ?_; intro v9 w9 hb9) | fail)
                    have HB9 := Lib.hid hb9
                    clear hb9 HB2 HBN HBD
                    go_wp2
                    go_roundw
                    case rel => exact ⟨k + 3, out ++ [v], hle, by go_num, HB9.out, HNX.out, by simp; omega, fun _ => by simp, fun h => absurd h (by omega)⟩
                    case measure => simp [intOf]; omega
                  · have HUW : Hid (V.unwP s.data.toList = ([], false)) := Lib.hid (unwP_none HN.out (HA.out.1 hp2))
                    have HBE := Lib.hid HBD.out.2.1
                    clear hp2 HA
                    go_wp2
                    go_ret2
                    exact ⟨by rw [HUW.out]; rfl, HBE.out⟩
          · have HUW : Hid (V.unwP s.data.toList = ([], false)) := Lib.hid (unwP_none HN.out (HAT.out.2.1 hp hc37))
            have hq1 : ¬ ((c.toNat : Int) = 37) := fun e => hc37 (by apply UInt8.toNat_inj.1; have : c.toNat = 37 := by omega
                                                                     rw [this]; rfl)
            have hq2 : ((c.toNat : Int) == 37) = false := beq_eq_false_iff_ne.2 hq1
            have HBE := Lib.hid HB.out.2.1
            rw [HC.out] at hq1 hq2
            clear hp HAT
            go_wp2
            go_ret2
            exact ⟨by rw [HUW.out]; rfl, HBE.out⟩
        · have HNX := Lib.hid (HAT.out.1 hp)
          clear hp HAT
          have HB2 : Hid (Buf w.heap.size (.slice oa out.length oc) out w (w2.alloc (.cells #[.int .u8 s[k].toNat] 5))) := Lib.hid (HB.out.below ((Below.refl _ w2).alloc (Nat.le_refl _) _))
          have HBN : Hid (∀ j u, (bvals [c])[j]? = some u → (w2.alloc (.cells #[.int .u8 s[k].toNat] 5)).cell? ⟨w2.heap.size, j, none⟩ = some u) := Lib.hid (by rw [← HC.out]; exact bytes_new [c] w2)
          go_wp2_with (first | (refine wl_bytes rfl _ _ rfl w.heap.size (.slice oa out.length oc) out w rfl HB2.out w2.heap.size 1 [c] rfl HBN.out (by simp; omega) ?_; intro v9 w9 hb9) | fail)
          have HB9 := Lib.hid hb9
          clear hb9 HB2 HBN HB HC
          go_wp2
          go_roundw
          case rel => exact ⟨k + 1, out ++ [c], by omega, by go_num, HB9.out, HNX.out, by simp; omega, fun _ => by simp, fun h => absurd h (by omega)⟩
          case measure => simp [intOf]; omega
      · obtain rfl : k = s.size := by omega
        have hg2 : V.unwGo s.data.toList = some out := by
          rw [hg, List.drop_of_length_le (by omega)]
          simp [V.unwGo]
        clear hg
        have HOUT := Lib.hid hg2
        by_cases hs0 : s.size = 0
        · have hov := hk0 hs0
          have hcv := conv_nil wr
          have HUW : Hid (V.unwP s.data.toList = ([], false)) := Lib.hid (by
            have : s.data.toList = [] := List.length_eq_zero_iff.1 (by rw [bs_size]; exact hs0)
            rw [this]; rfl)
          have HBE := Lib.hid HB.out.2.1
          obtain rfl : out = [] := List.length_eq_zero_iff.1 (by omega)
          simp only [List.length_nil, Value.slice.injEq] at hov
          obtain ⟨rfl, -, rfl⟩ := hov
          go_wp2
          go_ret2
          exact ⟨by rw [HUW.out]; rfl, HBE.out⟩
        · have HUW : Hid (V.unwP s.data.toList = (out, true)) := Lib.hid (unwP_end HN.out HOUT.out (hpos (by omega)))
          have hcv := conv_buf HB.out (List.length_pos_iff.2 (hpos (by omega)))
          have hop := List.length_pos_iff.2 (hpos (by omega))
          have hop2 : (0 : Int) < (out.length : Int) := by omega
          have HBL := Lib.hid HB.out.2.1
          go_wp2
          go_ret2
          exact ⟨by rw [HUW.out]; rfl, HBL.out⟩
end Go.Proofs.YtnhfaincdabdkaaGreatDoor
