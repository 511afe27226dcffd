/-
  Walks: the reference of layer 6, the orders of semantic and Debian versions.
-/
import Derived.Test.YtabeblbhbekjaaaGreatDoorR8
import Derived.Test.YtabeblbhbekjaaaGreatDoorR4
import Derived.Test.YtabeblbhbekjaaaGreatDoorR5
import Derived.Test.YtabeblbhbekjaaaGreatDoorC1
import Derived.Test.YtabeblbhbekjaaaGreatDoorSL
import Derived.StillTailTactics
namespace Go.Proofs.YtabeblbhbekjaaaGreatDoor
open Go.RowKit

theorem rdeb_some {r : Option (V.Bs × V.Bs × V.Bs)} {E U R : V.Bs} {w : World} {e : Ending} {w' : World} (h : RDeb r w e w') (hr : r = some (E, U, R)) :
    ∃ b off cap, e = .returned (.tuple #[.slice (some ⟨b, off, none⟩) 3 cap, .bool true]) ∧ b < w'.heap.size ∧ w'.cell? ⟨b, off, none⟩ = some (.string ⟨(epochOf E).toArray⟩) ∧
      w'.cell? ⟨b, off + 1, none⟩ = some (.string ⟨U.toArray⟩) ∧ w'.cell? ⟨b, off + 2, none⟩ = some (.string ⟨R.toArray⟩) ∧ Below w.heap.size w w' := by
  subst hr
  obtain ⟨hb, v, rfl, hs⟩ := h
  obtain ⟨b, off, cap, rfl, hlt, hc⟩ := hs.head (by simp)
  exact ⟨b, off, cap, rfl, hlt, hc 0 (by simp), hc 1 (by simp), hc 2 (by simp), hb⟩

theorem value_epoch (e : V.Bs) : V.value (epochOf e) = V.value e := by
  unfold epochOf
  split
  · rename_i h; subst h; rfl
  · rfl

theorem rorder_q (x y : V.Bs) (w : World) (hx : x.length ≤ 1000) (hy : y.length ≤ 1000) :
    Calls Tryz.prog 35 #[.string ⟨x.toArray⟩, .string ⟨y.toArray⟩] w fun e w' => e = .returned (.int .i64 (V.numbers x y)) ∧ w' = w := by
  have h := rorder_any ⟨x.toArray⟩ ⟨y.toArray⟩ w (by show x.length ≤ _; unfold maxLen; omega) (by show y.length ≤ _; unfold maxLen; omega)
  simp only [arr_list] at h
  exact h.mono fun _ _ h => ⟨h.1, h.2.symm⟩

set_option maxRecDepth 100000 in
set_option maxHeartbeats 3200000 in
theorem rbyDebian_any (s t : ByteArray) (x0 x1 x2 y0 y1 y2 : V.Bs) (w : World) (hm : MaxOk w) (hs : s.size ≤ 64) (ht : t.size ≤ 64)
    (hp : V.debParse s.data.toList = some (x0, x1, x2)) (hq : V.debParse t.data.toList = some (y0, y1, y2)) :
    Calls Tryz.prog 23 #[.string s, .string t] w fun e w' => e = .returned (.int .i64 (V.debCmp (x0, x1, x2) (y0, y1, y2))) ∧ Below w.heap.size w w' := by
  have fa := V.debParse_facts hp
  have fb := V.debParse_facts hq
  rw [bs_size] at fa fb
  have ga := V.debParse_ascii hp
  have gb := V.debParse_ascii hq
  obtain ⟨fa0, fa1, fa2⟩ := fa
  obtain ⟨fb0, fb1, fb2⟩ := fb
  simp only at fa0 fa1 fa2 fb0 fb1 fb2
  have GA := Lib.hid ga
  have GB := Lib.hid gb
  have hex : (epochOf x0).length ≤ 65 := by unfold epochOf; split <;> (try simp) <;> omega
  have hey : (epochOf y0).length ≤ 65 := by unfold epochOf; split <;> (try simp) <;> omega
  have HF : Hid (V.debCmp (x0, x1, x2) (y0, y1, y2) = V.cor (V.numbers (epochOf x0) (epochOf y0)) (V.cor (V.textsC x1 y1) (V.textsC x2 y2))) := Lib.hid (by
    unfold V.debCmp
    rw [V.numbers_value (value_epoch x0) (value_epoch y0)]
    simp only [V.orI, V.cor_right])
  obtain ⟨ex, hex'⟩ : ∃ x, epochOf x0 = x := ⟨_, rfl⟩
  obtain ⟨ey, hey'⟩ : ∃ x, epochOf y0 = x := ⟨_, rfl⟩
  rw [hex'] at hex HF
  rw [hey'] at hey HF
  have HEX := Lib.hid hex'
  have HEY := Lib.hid hey'
  have HP := Lib.hid hp
  have HQ := Lib.hid hq
  have HM := Lib.hid hm
  clear hp hq hm ga gb hex' hey'
  go_enter Tryz.func23, Tryz.ntmps23
  go_wp2_with fail
  refine (rdebian_any s _ HM.out (by omega)).mono ?_
  rintro e w1 h
  obtain ⟨b, off, cap, rfl, hlt, c0, c1, c2, hb1⟩ := rdeb_some h HP.out
  rw [HEX.out] at c0
  have hm1 := HM.out.below hb1
  have HB1 := Lib.hid hb1
  clear h hb1
  go_wp2_with fail
  refine (rdebian_any t _ hm1 (by omega)).mono ?_
  rintro e w2 h
  obtain ⟨b', off', cap', rfl, hlt', d0, d1, d2, hb2⟩ := rdeb_some h HQ.out
  rw [HEY.out] at d0
  have e0 := (hb2.cell (p := ⟨b, off, none⟩) hlt).trans c0
  have e1 := (hb2.cell (p := ⟨b, off + 1, none⟩) hlt).trans c1
  have e2 := (hb2.cell (p := ⟨b, off + 2, none⟩) hlt).trans c2
  have hlt2 : b < w2.heap.size := Nat.lt_of_lt_of_le hlt hb2.size
  have HB2 := Lib.hid (HB1.out.trans (hb2.mono HB1.out.size))
  clear h hb2 c0 c1 c2 hlt
  go_wp2_with fail
  go_quiet ((go_at_call 35; exact Calls.quiet_of_same (rorder_q ex ey _ (by omega) (by omega))))
  rename_i nq
  have f1 : (w2.drewN nq).cell? ⟨b, off + 1, none⟩ = some (.string ⟨x1.toArray⟩) := by rw [World.cell?_drewN]; exact e1
  have f2 : (w2.drewN nq).cell? ⟨b, off + 2, none⟩ = some (.string ⟨x2.toArray⟩) := by rw [World.cell?_drewN]; exact e2
  have g1 : (w2.drewN nq).cell? ⟨b', off' + 1, none⟩ = some (.string ⟨y1.toArray⟩) := by rw [World.cell?_drewN]; exact d1
  have g2 : (w2.drewN nq).cell? ⟨b', off' + 2, none⟩ = some (.string ⟨y2.toArray⟩) := by rw [World.cell?_drewN]; exact d2
  have HBW := Lib.hid (below_drewN HB2.out nq)
  have lt1 : b < (w2.drewN nq).heap.size := Nat.lt_of_lt_of_le hlt2 (below_drewN (Below.refl w2.heap.size w2) nq).size
  have lt2 : b' < (w2.drewN nq).heap.size := Nat.lt_of_lt_of_le hlt' (below_drewN (Below.refl w2.heap.size w2) nq).size
  clear e0 e1 e2 d0 d1 d2 HB2 hlt2 hlt'
  generalize w2.drewN nq = W at *
  by_cases h0 : V.numbers ex ey = 0
  · have HF2 : Hid (V.debCmp (x0, x1, x2) (y0, y1, y2) = V.cor (V.textsC x1 y1) (V.textsC x2 y2)) := Lib.hid (by rw [HF.out, h0]; rfl)
    rw [h0]
    clear h0
    go_wp2
    go_still_tail 6, (by kernel_rfl)
    change wpList _ _ _ _ _ W.drew
    have k2 : W.drew.cell? ⟨b, off + 2, none⟩ = some (.string ⟨x2.toArray⟩) := by rw [World.cell?_drew]; exact f2
    have l2 : W.drew.cell? ⟨b', off' + 2, none⟩ = some (.string ⟨y2.toArray⟩) := by rw [World.cell?_drew]; exact g2
    have HBV := Lib.hid HBW.out.drew
    have lt1' : b < W.drew.heap.size := lt1
    have lt2' : b' < W.drew.heap.size := lt2
    clear f1 f2 g1 g2 lt1 lt2 HBW
    generalize W.drew = W2 at *
    go_wp2_with fail
    refine (rpart_at x1 y1 _ (by omega) (by omega) GA.out.1 GB.out.1).mono ?_
    rintro e w3 ⟨rfl, hb3⟩
    have m2 := (hb3.cell (p := ⟨b, off + 2, none⟩) lt1').trans k2
    have n2 := (hb3.cell (p := ⟨b', off' + 2, none⟩) lt2').trans l2
    have HB3 := Lib.hid (HBV.out.trans (hb3.mono HBV.out.size))
    clear k2 l2 lt1' lt2' hb3 HBV
    by_cases h0 : V.textsC x1 y1 = 0
    · have HF3 : Hid (V.debCmp (x0, x1, x2) (y0, y1, y2) = V.textsC x2 y2) := Lib.hid (by rw [HF2.out, h0]; rfl)
      rw [h0]
      clear h0
      go_wp2
      go_still_tail 6, (by kernel_rfl)
      change wpList _ _ _ _ _ w3.drew
      have HBV := Lib.hid HB3.out.drew
      clear m2 n2 HB3
      generalize w3.drew = W4 at *
      go_wp2_with fail
      refine (rpart_at x2 y2 _ (by omega) (by omega) GA.out.2 GB.out.2).mono ?_
      rintro e w5 ⟨rfl, hb5⟩
      have HB5 := Lib.hid (HBV.out.trans (hb5.mono HBV.out.size))
      clear hb5
      go_wp2
      go_ret
      exact ⟨ret_int HF3.out.symm, HB5.out⟩
    · have HF3 : Hid (V.debCmp (x0, x1, x2) (y0, y1, y2) = V.textsC x1 y1) := Lib.hid (by rw [HF2.out, V.cor_ne h0])
      have hb : (V.textsC x1 y1 != 0) = true := by simpa using h0
      generalize V.textsC x1 y1 = c at *
      clear h0
      go_wp2
      go_ret
      exact ⟨ret_int HF3.out.symm, HB3.out⟩
  · have HF2 : Hid (V.debCmp (x0, x1, x2) (y0, y1, y2) = V.numbers ex ey) := Lib.hid (by rw [HF.out, V.cor_ne h0])
    have hb : (V.numbers ex ey != 0) = true := by simpa using h0
    generalize V.numbers ex ey = c at *
    clear h0
    go_wp2
    go_ret
    exact ⟨ret_int HF2.out.symm, HBW.out⟩
theorem rdots_len (s : ByteArray) (hs : s.size ≤ 64) : (V.splitOn 46 s.data.toList).length ≤ 65 ∧ ∀ j, ((V.splitOn 46 s.data.toList).getD j [48]).length ≤ 65 := by
  have h1 := splitOn_le 46 s.data.toList
  have h2 := splitOn_mem 46 s.data.toList
  rw [bs_size] at h1 h2
  refine ⟨by omega, fun j => ?_⟩
  rw [List.getD_eq_getElem?_getD]
  rcases hk : (V.splitOn 46 s.data.toList)[j]? with _ | x
  · simp
  · have := h2 x (List.mem_of_getElem? hk); simp; omega

set_option maxRecDepth 100000 in
set_option maxHeartbeats 3200000 in
theorem rbyDots_any (s t : ByteArray) (w : World) (hm : MaxOk w) (hs : s.size ≤ 64) (ht : t.size ≤ 64) :
    Calls Tryz.prog 24 #[.string s, .string t] w fun e w' => e = .returned (.int .i64 (V.dotCmp s.data.toList t.data.toList)) ∧ Below w.heap.size w w' := by
  have HF := Lib.hid (V.pad_dots s.data.toList t.data.toList)
  have hls := rdots_len s hs
  have hlt := rdots_len t ht
  obtain ⟨L, hL⟩ : ∃ L, V.splitOn 46 s.data.toList = L := ⟨_, rfl⟩
  obtain ⟨M, hM⟩ : ∃ M, V.splitOn 46 t.data.toList = M := ⟨_, rfl⟩
  rw [hL] at hls HF
  rw [hM] at hlt HF
  obtain ⟨l1, HL1⟩ := hls
  obtain ⟨m1, HM1⟩ := hlt
  have HL1 := Lib.hid HL1
  have HM1 := Lib.hid HM1
  have HMX := Lib.hid hm
  have HL := Lib.hid hL
  have HM := Lib.hid hM
  clear hm hL hM
  go_enter Tryz.func24, Tryz.ntmps24
  go_wp2_with fail
  refine (split_any s 46 _ HMX.out (by omega)).mono ?_
  rintro e w1 ⟨rfl, hw1⟩
  rw [HL.out] at hw1 ⊢
  have hb1 : Below w.heap.size w w1 := by rw [hw1]; exact (Below.refl _ _).alloc (Nat.le_refl _) _
  have c1 := split_cells hw1
  have z1 : w.heap.size < w1.heap.size := by rw [hw1]; simp
  clear hw1
  go_wp2_with fail
  refine (split_any t 46 _ (HMX.out.below hb1) (by omega)).mono ?_
  rintro e w2 ⟨rfl, hw2⟩
  rw [HM.out] at hw2 ⊢
  have hb2 : Below w1.heap.size w1 w2 := by rw [hw2]; exact (Below.refl _ _).alloc (Nat.le_refl _) _
  have HC1 : Hid (∀ (j : Nat) (_ : j < L.length), w2.cell? ⟨w.heap.size, j, none⟩ = some (.string ⟨(L.getD j [48]).toArray⟩)) := Lib.hid (fun j hj => by
    rw [hb2.cell (p := ⟨w.heap.size, j, none⟩) z1, c1 j hj, List.getD_eq_getElem?_getD, List.getElem?_eq_getElem hj]; rfl)
  have HC2 : Hid (∀ (j : Nat) (_ : j < M.length), w2.cell? ⟨w1.heap.size, j, none⟩ = some (.string ⟨(M.getD j [48]).toArray⟩)) := Lib.hid (fun j hj => by
    rw [split_cells hw2 j hj, List.getD_eq_getElem?_getD, List.getElem?_eq_getElem hj]; rfl)
  have HB2 := Lib.hid (hb1.trans (hb2.mono hb1.size))
  clear hb1 hb2 c1 z1 hw2
  go_wp2
  go_loop [7] (fun i => ∃ k : Nat, k ≤ max L.length M.length ∧ i = .int .i64 k ∧ ∀ j, j < k → V.numbers (L.getD j [48]) (M.getD j [48]) = 0) (fun i => max L.length M.length - (intOf i).toNat)
  case atStart => exact ⟨0, Nat.zero_le _, rfl, fun j hj => by omega⟩
  case round =>
    obtain ⟨k, hk, rfl, hz⟩ := hrel
    have HZ := Lib.hid hz
    clear hz
    by_cases hor : k < L.length ∨ k < M.length
    · have hsl := HL1.out k
      have hsm := HM1.out k
      have HHIT := Lib.hid (V.pad_hit k L M HZ.out hor)
      obtain ⟨x, hx⟩ : ∃ x, L.getD k [48] = x := ⟨_, rfl⟩
      obtain ⟨y, hy⟩ : ∃ y, M.getD k [48] = y := ⟨_, rfl⟩
      have HX := Lib.hid hx
      have HY := Lib.hid hy
      have hcx := HC1.out k
      have hcy := HC2.out k
      rw [hx] at hsl hcx HHIT
      rw [hy] at hsm hcy HHIT
      have hex : ¬ k < L.length → x = [48] := fun h => by rw [← hx, List.getD_eq_getElem?_getD, List.getElem?_eq_none (by omega)]; rfl
      have hey : ¬ k < M.length → y = [48] := fun h => by rw [← hy, List.getD_eq_getElem?_getD, List.getElem?_eq_none (by omega)]; rfl
      have HNEXT : Hid (V.numbers x y = 0 → ∀ j, j < k + 1 → V.numbers (L.getD j [48]) (M.getD j [48]) = 0) := Lib.hid (fun h0 j hj => by
        by_cases e : j = k
        · subst e; rw [HX.out, HY.out]; exact h0
        · exact HZ.out j (by omega))
      have hkm : Hid (k < max L.length M.length) := Lib.hid (by omega)
      clear hx hy
      have three : (k < L.length ∧ k < M.length) ∨ (k < L.length ∧ ¬ k < M.length) ∨ (¬ k < L.length ∧ k < M.length) := by omega
      clear hor
      rcases three with ⟨a1, a2⟩ | ⟨a1, a2⟩ | ⟨a1, a2⟩
      · have d1 := hcx a1
        have d2 := hcy a2
        clear hex hey hcx hcy
        go_wp2_with fail
        refine (rorder_q x y _ (by omega) (by omega)).mono ?_
        rintro e w' ⟨rfl, rfl⟩
        by_cases h0 : V.numbers x y = 0
        · have HN := Lib.hid (HNEXT.out h0)
          rw [h0]
          clear h0
          have hk2 := hkm.out
          go_wp2
          go_round
          case rel => exact ⟨k + 1, by omega, by go_num, HN.out⟩
          case measure => simp [intOf]; omega
        · have HR : Hid (V.dotCmp s.data.toList t.data.toList = V.numbers x y) := Lib.hid (by rw [← HF.out]; exact HHIT.out h0)
          have hb : (V.numbers x y != 0) = true := by simpa using h0
          generalize V.numbers x y = c at *
          clear h0
          go_wp2
          go_ret
          exact ⟨ret_int HR.out.symm, HB2.out⟩
      · have d1 := hcx a1
        obtain rfl := hey a2
        clear hex hey hcx hcy
        go_wp2_with fail
        refine (rorder_q x [48] _ (by omega) (by simp)).mono ?_
        rintro e w' ⟨rfl, rfl⟩
        by_cases h0 : V.numbers x [48] = 0
        · have HN := Lib.hid (HNEXT.out h0)
          rw [h0]
          clear h0
          have hk2 := hkm.out
          go_wp2
          go_round
          case rel => exact ⟨k + 1, by omega, by go_num, HN.out⟩
          case measure => simp [intOf]; omega
        · have HR : Hid (V.dotCmp s.data.toList t.data.toList = V.numbers x [48]) := Lib.hid (by rw [← HF.out]; exact HHIT.out h0)
          have hb : (V.numbers x [48] != 0) = true := by simpa using h0
          generalize V.numbers x [48] = c at *
          clear h0
          go_wp2
          go_ret
          exact ⟨ret_int HR.out.symm, HB2.out⟩
      · have d2 := hcy a2
        obtain rfl := hex a1
        clear hex hey hcx hcy
        go_wp2_with fail
        refine (rorder_q [48] y _ (by simp) (by omega)).mono ?_
        rintro e w' ⟨rfl, rfl⟩
        by_cases h0 : V.numbers [48] y = 0
        · have HN := Lib.hid (HNEXT.out h0)
          rw [h0]
          clear h0
          have hk2 := hkm.out
          go_wp2
          go_round
          case rel => exact ⟨k + 1, by omega, by go_num, HN.out⟩
          case measure => simp [intOf]; omega
        · have HR : Hid (V.dotCmp s.data.toList t.data.toList = V.numbers [48] y) := Lib.hid (by rw [← HF.out]; exact HHIT.out h0)
          have hb : (V.numbers [48] y != 0) = true := by simpa using h0
          generalize V.numbers [48] y = c at *
          clear h0
          go_wp2
          go_ret
          exact ⟨ret_int HR.out.symm, HB2.out⟩
    · have HE : Hid (V.dotCmp s.data.toList t.data.toList = 0) := Lib.hid (by rw [← HF.out]; exact V.pad_end k L M HZ.out hor)
      have a1 : ¬ k < L.length := by omega
      have a2 : ¬ k < M.length := by omega
      clear hor
      go_wp2
      go_ret
      exact ⟨ret_int HE.out.symm, HB2.out⟩
end Go.Proofs.YtabeblbhbekjaaaGreatDoor
