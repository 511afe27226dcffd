/-
  Lemmas for the law.
-/
import Derived.Test.YtbikeahmldobkaaGreatDoorC41x17
import Derived.Test.YtbikeahmldobkaaGreatDoorC41x18
import Derived.Test.YtbikeahmldobkaaGreatDoorC41x15
import Derived.Test.YtbikeahmldobkaaGreatDoorC41x16
import Derived.StillTailTactics
set_option linter.all false
set_option maxRecDepth 100000
set_option maxHeartbeats 3200000
namespace Go.Proofs.YtbikeahmldobkaaGreatDoor
open Go.RowKit
theorem zg0 {r : Option (V.Bs × V.Bs × V.Bs)} {E U R : V.Bs} {w : World} {e : Ending} {w' : World} (h : RDeb r w e w') (hr : r = some (E, U, R)) :
  ∃ b off cap, e = .returned (.tuple #[.slice (some ⟨b, off, none⟩) 3 cap, .bool true]) /\ b < w'.heap.size /\ w'.cell? ⟨b, off, none⟩ = some (.string ⟨(jx E).toArray⟩) /\
   w'.cell? ⟨b, off + 1, none⟩ = some (.string ⟨U.toArray⟩) /\ w'.cell? ⟨b, off + 2, none⟩ = some (.string ⟨R.toArray⟩) /\ Below w.heap.size w w' := by
 subst hr
 obtain ⟨hb, v, rfl, hs⟩ := h
 obtain ⟨b, off, cap, rfl, hlt, hc⟩ := hs.head (by simp)
 exact ⟨b, off, cap, rfl, hlt, hc 0 (by simp), hc 1 (by simp), hc 2 (by simp), hb⟩
theorem zdl (e : V.Bs) : V.value (jx e) = V.value e := by
 unfold jx
 split
 ·rename_i h; subst h; rfl
 ·rfl
theorem zat (x y : V.Bs) (w : World) (hx : x.length ≤ 1000) (hy : y.length ≤ 1000) :
  Calls Tryz.prog 86 #[.string ⟨x.toArray⟩, .string ⟨y.toArray⟩] w fun e w' => e = .returned (.int .i64 (V.numbers x y)) /\ w' = w := by
 have h := zbv ⟨x.toArray⟩ ⟨y.toArray⟩ w (by show x.length ≤ _; unfold maxLen; omega) (by show y.length ≤ _; unfold maxLen; omega)
 simp only  at h
 exact h.mono fun _ _ h => ⟨h.1, h.2.symm⟩
theorem zgu (s t : ByteArray) (x0 x1 x2 y0 y1 y2 : V.Bs) (w : World) (hm : zm w) (hs : s.size ≤ 64) (ht : t.size ≤ 64)
  (hp : V.zq s.data.toList = some (x0, x1, x2)) (hq : V.zq t.data.toList = some (y0, y1, y2)) :
  Calls Tryz.prog 53 #[.string s, .string t] w fun e w' => e = .returned (.int .i64 (V.xa (x0, x1, x2) (y0, y1, y2))) /\ Below w.heap.size w w' := by
 have fa := V.xc hp
 have fb := V.xc hq
 rw [zi] at fa fb
 have ga := V.zas hp
 have gb := V.zas hq
 obtain ⟨fa0, fa1, fa2⟩ := fa
 obtain ⟨fb0, fb1, fb2⟩ := fb
 simp only at fa0 fa1 fa2 fb0 fb1 fb2
 have GA := zpa ga
 have GB := zpa gb
 have hex : (jx x0).length ≤ 65 := by unfold jx; split <;> (try simp) <;> omega
 have hey : (jx y0).length ≤ 65 := by unfold jx; split <;> (try simp) <;> omega
 have HF : Hid (V.xa (x0, x1, x2) (y0, y1, y2) = V.cor (V.numbers (jx x0) (jx y0)) (V.cor (V.zx x1 y1) (V.zx x2 y2))) := zpa (by
   unfold V.xa
   rw [V.zgw (zdl x0) (zdl y0)]
   simp only [V.orI, V.za9])
 obtain ⟨ex, hex'⟩ : ∃ x, jx x0 = x := ⟨_, rfl⟩
 obtain ⟨ey, hey'⟩ : ∃ x, jx y0 = x := ⟨_, rfl⟩
 rw [hex'] at hex HF
 rw [hey'] at hey HF
 have HEX := zpa hex'
 have HEY := zpa hey'
 have HP := zpa hp
 have HQ := zpa hq
 have HM := zpa hm
 clear hp hq hm ga gb hex' hey'
 go_enter Tryz.func53, Tryz.ntmps53
 go_wp2_with fail
 refine (zax s _ HM.out (by omega)).mono ?_
 rintro e w1 h
 obtain ⟨b, off, cap, rfl, hlt, c0, c1, c2, hb1⟩ := zg0 h HP.out
 rw [HEX.out] at c0
 have hm1 := HM.out.below hb1
 have HB1 := zpa hb1
 clear h hb1
 go_wp2_with fail
 refine (zax t _ hm1 (by omega)).mono ?_
 rintro e w2 h
 obtain ⟨b', off', cap', rfl, hlt', d0, d1, d2, hb2⟩ := zg0 h HQ.out
 rw [HEY.out] at d0
 have e0 := (hb2.cell (p := ⟨b, off, none⟩) hlt).trans c0
 have e1 := (hb2.cell (p := ⟨b, off + 1, none⟩) hlt).trans c1
 have e2 := (hb2.cell (p := ⟨b, off + 2, none⟩) hlt).trans c2
 have hlt2 : b < w2.heap.size := Nat.lt_of_lt_of_le hlt hb2.size
 have HB2 := zpb HB1 hb2
 clear h hb2 c0 c1 c2 hlt
 go_wp2_with fail
 go_quiet ((go_at_call 86; exact Calls.quiet_of_same (zat ex ey _ (by omega) (by omega))))
 rename_i nq
 have f1 : (w2.drewN nq).cell? ⟨b, off + 1, none⟩ = some (.string ⟨x1.toArray⟩) := by rw [World.cell?_drewN]; exact e1
 have f2 : (w2.drewN nq).cell? ⟨b, off + 2, none⟩ = some (.string ⟨x2.toArray⟩) := by rw [World.cell?_drewN]; exact e2
 have g1 : (w2.drewN nq).cell? ⟨b', off' + 1, none⟩ = some (.string ⟨y1.toArray⟩) := by rw [World.cell?_drewN]; exact d1
 have g2 : (w2.drewN nq).cell? ⟨b', off' + 2, none⟩ = some (.string ⟨y2.toArray⟩) := by rw [World.cell?_drewN]; exact d2
 have HBW := zpa (below_drewN HB2.out nq)
 have lt1 : b < (w2.drewN nq).heap.size := Nat.lt_of_lt_of_le hlt2 (below_drewN (zpd w2.heap.size w2) nq).size
 have lt2 : b' < (w2.drewN nq).heap.size := Nat.lt_of_lt_of_le hlt' (below_drewN (zpd w2.heap.size w2) nq).size
 clear e0 e1 e2 d0 d1 d2 HB2 hlt2 hlt'
 generalize w2.drewN nq = W at *
 by_cases h0 : V.numbers ex ey = 0
 ·have HF2 : Hid (V.xa (x0, x1, x2) (y0, y1, y2) = V.cor (V.zx x1 y1) (V.zx x2 y2)) := zpa (by rw [HF.out, h0]; rfl)
  rw [h0]
  clear h0
  go_wp2
  go_still_tail 6, (by kernel_rfl)
  change wpList _ _ _ _ _ W.drew
  have k2 : W.drew.cell? ⟨b, off + 2, none⟩ = some (.string ⟨x2.toArray⟩) := by rw [World.cell?_drew]; exact f2
  have l2 : W.drew.cell? ⟨b', off' + 2, none⟩ = some (.string ⟨y2.toArray⟩) := by rw [World.cell?_drew]; exact g2
  have HBV := zpa HBW.out.drew
  have lt1' : b < W.drew.heap.size := lt1
  have lt2' : b' < W.drew.heap.size := lt2
  clear f1 f2 g1 g2 lt1 lt2 HBW
  generalize W.drew = W2 at *
  go_wp2_with fail
  refine (zlc x1 y1 _ (by omega) (by omega) GA.out.1 GB.out.1).mono ?_
  rintro e w3 ⟨rfl, hb3⟩
  have m2 := (hb3.cell (p := ⟨b, off + 2, none⟩) lt1').trans k2
  have n2 := (hb3.cell (p := ⟨b', off' + 2, none⟩) lt2').trans l2
  have HB3 := zpb HBV hb3
  clear k2 l2 lt1' lt2' hb3 HBV
  by_cases h0 : V.zx x1 y1 = 0
  ·have HF3 : Hid (V.xa (x0, x1, x2) (y0, y1, y2) = V.zx x2 y2) := zpa (by rw [HF2.out, h0]; rfl)
   rw [h0]
   clear h0
   go_wp2
   go_still_tail 6, (by kernel_rfl)
   change wpList _ _ _ _ _ w3.drew
   have HBV := zpa HB3.out.drew
   clear m2 n2 HB3
   generalize w3.drew = W4 at *
   go_wp2_with fail
   refine (zlc x2 y2 _ (by omega) (by omega) GA.out.2 GB.out.2).mono ?_
   rintro e w5 ⟨rfl, hb5⟩
   have HB5 := zpb HBV hb5
   clear hb5
   go_wp2
   go_ret
   exact ⟨zn HF3.out.symm, HB5.out⟩
  ·have HF3 : Hid (V.xa (x0, x1, x2) (y0, y1, y2) = V.zx x1 y1) := zpa (by rw [HF2.out, V.jb h0])
   have hb : (V.zx x1 y1 != 0) = true := by simpa using h0
   generalize V.zx x1 y1 = c at *
   clear h0
   go_wp2
   go_ret
   exact ⟨zn HF3.out.symm, HB3.out⟩
 ·have HF2 : Hid (V.xa (x0, x1, x2) (y0, y1, y2) = V.numbers ex ey) := zpa (by rw [HF.out, V.jb h0])
  have hb : (V.numbers ex ey != 0) = true := by simpa using h0
  generalize V.numbers ex ey = c at *
  clear h0
  go_wp2
  go_ret
  exact ⟨zn HF2.out.symm, HBW.out⟩
theorem zgx (s : ByteArray) (hs : s.size ≤ 64) : (V.zo 46 s.data.toList).length ≤ 65 /\ ∀ j, ((V.zo 46 s.data.toList).getD j [48]).length ≤ 65 := by
 have h1 := qy 46 s.data.toList
 have h2 := ji 46 s.data.toList
 rw [zi] at h1 h2
 refine ⟨by omega, fun j => ?_⟩
 rw [List.getD_eq_getElem?_getD]
 rcases hk : (V.zo 46 s.data.toList)[j]? with _ | x
 ·simp
 ·have := h2 x (List.mem_of_getElem? hk); simp; omega
theorem zqa {P : Prop} (h : P := by
 have HN := zpa (HNEXT.out h0)
 rw [h0]
 clear h0
 have hk2 := hkm.out
 go_wp2
 go_round
 case rel => exact ⟨k + 1, by omega, by go_num, HN.out⟩
 case measure => simp [intOf]; omega) : P := h
theorem zlb (s t : ByteArray) (w : World) (hm : zm w) (hs : s.size ≤ 64) (ht : t.size ≤ 64) :
  Calls Tryz.prog 54 #[.string s, .string t] w fun e w' => e = .returned (.int .i64 (V.uh s.data.toList t.data.toList)) /\ Below w.heap.size w w' := by
 have HF := zpa (V.pad_dots s.data.toList t.data.toList)
 have hls := zgx s hs
 have hlt := zgx t ht
 obtain ⟨L, hL⟩ : ∃ L, V.zo 46 s.data.toList = L := ⟨_, rfl⟩
 obtain ⟨M, hM⟩ : ∃ M, V.zo 46 t.data.toList = M := ⟨_, rfl⟩
 rw [hL] at hls HF
 rw [hM] at hlt HF
 obtain ⟨l1, HL1⟩ := hls
 obtain ⟨m1, HM1⟩ := hlt
 have HL1 := zpa HL1
 have HM1 := zpa HM1
 have HMX := zpa hm
 have HL := zpa hL
 have HM := zpa hM
 clear hm hL hM
 go_enter Tryz.func54, Tryz.ntmps54
 go_wp2_with fail
 refine (jm s 46 _ HMX.out (by omega)).mono ?_
 rintro e w1 ⟨rfl, hw1⟩
 rw [HL.out] at hw1 ⊢
 have hb1 : Below w.heap.size w w1 := by rw [hw1]; exact (zpd _ _).alloc (zpc _) _
 have c1 := kx hw1
 have z1 : w.heap.size < w1.heap.size := by rw [hw1]; simp
 clear hw1
 go_wp2_with fail
 refine (jm t 46 _ (HMX.out.below hb1) (by omega)).mono ?_
 rintro e w2 ⟨rfl, hw2⟩
 rw [HM.out] at hw2 ⊢
 have hb2 : Below w1.heap.size w1 w2 := by rw [hw2]; exact (zpd _ _).alloc (zpc _) _
 have HC1 : Hid (∀ (j : Nat) (_ : j < L.length), w2.cell? ⟨w.heap.size, j, none⟩ = some (.string ⟨(L.getD j [48]).toArray⟩)) := zpa (fun j hj => by
   rw [hb2.cell (p := ⟨w.heap.size, j, none⟩) z1, c1 j hj, List.getD_eq_getElem?_getD, List.getElem?_eq_getElem hj]; rfl)
 have HC2 : Hid (∀ (j : Nat) (_ : j < M.length), w2.cell? ⟨w1.heap.size, j, none⟩ = some (.string ⟨(M.getD j [48]).toArray⟩)) := zpa (fun j hj => by
   rw [kx hw2 j hj, List.getD_eq_getElem?_getD, List.getElem?_eq_getElem hj]; rfl)
 have HB2 := zpa (hb1.trans (hb2.mono hb1.size))
 clear hb1 hb2 c1 z1 hw2
 go_wp2
 go_loop [7] (fun i => ∃ k : Nat, k ≤ max L.length M.length /\ i = .int .i64 k /\ ∀ j, j < k -> V.numbers (L.getD j [48]) (M.getD j [48]) = 0) (fun i => max L.length M.length - (intOf i).toNat)
 case atStart => exact ⟨0, Nat.zero_le _, rfl, fun j hj => by omega⟩
 case round =>
  obtain ⟨k, hk, rfl, hz⟩ := hrel
  have HZ := zpa hz
  clear hz
  by_cases hor : k < L.length ∨ k < M.length
  ·have hsl := HL1.out k
   have hsm := HM1.out k
   have HHIT := zpa (V.pad_hit k L M HZ.out hor)
   obtain ⟨x, hx⟩ : ∃ x, L.getD k [48] = x := ⟨_, rfl⟩
   obtain ⟨y, hy⟩ : ∃ y, M.getD k [48] = y := ⟨_, rfl⟩
   have HX := zpa hx
   have HY := zpa hy
   have hcx := HC1.out k
   have hcy := HC2.out k
   rw [hx] at hsl hcx HHIT
   rw [hy] at hsm hcy HHIT
   have hex : ¬ k < L.length -> x = [48] := fun h => by rw [← hx, List.getD_eq_getElem?_getD, List.getElem?_eq_none (by omega)]; rfl
   have hey : ¬ k < M.length -> y = [48] := fun h => by rw [← hy, List.getD_eq_getElem?_getD, List.getElem?_eq_none (by omega)]; rfl
   have HNEXT : Hid (V.numbers x y = 0 -> ∀ j, j < k + 1 -> V.numbers (L.getD j [48]) (M.getD j [48]) = 0) := zpa (fun h0 j hj => by
     by_cases e : j = k
     · subst e; rw [HX.out, HY.out]; exact h0
     · exact HZ.out j (by omega))
   have hkm : Hid (k < max L.length M.length) := zpa (by omega)
   clear hx hy
   have three : (k < L.length /\ k < M.length) ∨ (k < L.length /\ ¬ k < M.length) ∨ (¬ k < L.length /\ k < M.length) := by omega
   clear hor
   rcases three with ⟨a1, a2⟩ | ⟨a1, a2⟩ | ⟨a1, a2⟩
   ·have d1 := hcx a1
    have d2 := hcy a2
    clear hex hey hcx hcy
    go_wp2_with fail
    refine (zat x y _ (by omega) (by omega)).mono ?_
    rintro e w' ⟨rfl, rfl⟩
    by_cases h0 : V.numbers x y = 0
    ·exact zqa
    ·have HR : Hid (V.uh s.data.toList t.data.toList = V.numbers x y) := zpa (by rw [← HF.out]; exact HHIT.out h0)
     have hb : (V.numbers x y != 0) = true := by simpa using h0
     generalize V.numbers x y = c at *
     exact zsd
   ·have d1 := hcx a1
    obtain rfl := hey a2
    clear hex hey hcx hcy
    go_wp2_with fail
    refine (zat x [48] _ (by omega) (by simp)).mono ?_
    rintro e w' ⟨rfl, rfl⟩
    by_cases h0 : V.numbers x [48] = 0
    ·exact zqa
    ·have HR : Hid (V.uh s.data.toList t.data.toList = V.numbers x [48]) := zpa (by rw [← HF.out]; exact HHIT.out h0)
     have hb : (V.numbers x [48] != 0) = true := by simpa using h0
     generalize V.numbers x [48] = c at *
     exact zsd
   ·have d2 := hcy a2
    obtain rfl := hex a1
    clear hex hey hcx hcy
    go_wp2_with fail
    refine (zat [48] y _ (by simp) (by omega)).mono ?_
    rintro e w' ⟨rfl, rfl⟩
    by_cases h0 : V.numbers [48] y = 0
    ·exact zqa
    ·have HR : Hid (V.uh s.data.toList t.data.toList = V.numbers [48] y) := zpa (by rw [← HF.out]; exact HHIT.out h0)
     have hb : (V.numbers [48] y != 0) = true := by simpa using h0
     generalize V.numbers [48] y = c at *
     exact zsd
  ·have HE : Hid (V.uh s.data.toList t.data.toList = 0) := zpa (by rw [← HF.out]; exact V.pad_end k L M HZ.out hor)
   have a1 : ¬ k < L.length := by omega
   have a2 : ¬ k < M.length := by omega
   clear hor
   go_wp2
   go_ret
   exact ⟨zn HE.out.symm, HB2.out⟩
theorem zdn {s : ByteArray} (h : 1 ≤ s.size) : s.toList.isEmpty = false := by
 rw [Lib.toList_data]
 have : 0 < s.data.toList.length := by rw [zi]; omega
 cases hl : s.data.toList with
 | nil => rw [hl] at this; simp at this
 | cons => rfl
theorem zrg {P : Prop} (h : P := by
 go_enter Tryz.func84, Tryz.ntmps84
 go_wp2
 go_ret
 exact ⟨zf HF.out.symm, zpd _ _⟩) : P := h
theorem zr1 {P : Prop} (h : P := by
 go_wp2
 go_ret
 exact ⟨zf (by rw [HF.out, HS.out]; rfl), hb⟩) : P := h
theorem zb1 (n : Int) (s : ByteArray) (w : World) (hm : zm w) (hs : s.size ≤ maxLen) :
  Calls Tryz.prog 84 #[.int .i64 n, .string s] w fun e w' => e = .returned (.bool (V.valid n s.data.toList)) /\ Below w.heap.size w w' := by
 unfold maxLen at hs
 have HM := zpa hm
 clear hm
 by_cases hbad : s.size = 0 ∨ 64 < s.size
 ·have HF : Hid (V.valid n s.data.toList = false) := zpa (by
    unfold V.valid
    rw [zi]
    rcases hbad with h | h
    · rw [h]; rfl
    · have : decide (s.size ≤ 64) = false := by simp; omega
      rw [this]; simp)
  rcases hbad with h0 | h64
  ·have he : s = ⟨#[]⟩ := ki (by
     have : s.data.toList = [] := List.eq_nil_of_length_eq_zero (by rw [zi]; exact h0)
     rw [this])
   subst he
   exact zrg
  ·have hne : s.toList.isEmpty = false := zdn (by omega)
   have hne' : ¬ s.toList = [] := by simpa using hne
   exact zrg
 ·have h1 : 1 ≤ s.size := by omega
  have h2 : s.size ≤ 64 := by omega
  have HF : Hid (V.valid n s.data.toList = V.kj n s.data.toList) := zpa (by
    unfold V.valid
    rw [zi]
    simp [h1, h2])
  have hne : s.toList.isEmpty = false := zdn h1
  have hne' : ¬ s.toList = [] := by simpa using hne
  have hle64 : (s.size : Int) ≤ 64 := by omega
  clear hbad
  by_cases n1 : n = 1
  ·subst n1
   have HS : Hid (V.kj 1 s.data.toList = (V.zl s.data.toList).isSome) := zpa rfl
   go_enter Tryz.func84, Tryz.ntmps84
   go_wp2_with fail
   refine (zak s _ HM.out (by omega)).mono ?_
   rintro e w1 ⟨hb, he⟩
   rcases hp : V.zl s.data.toList with _ | ⟨l, ids⟩
   ·rw [hp] at he HS
    subst he
    exact zr1
   ·rw [hp] at he HS
    obtain ⟨v, u, rfl, _, _⟩ := he
    exact zr1
  ·by_cases n2 : n = 2
   ·subst n2
    have HS : Hid (V.kj 2 s.data.toList = (V.zq s.data.toList).isSome) := zpa rfl
    go_enter Tryz.func84, Tryz.ntmps84
    go_wp2_with fail
    refine (zax s _ HM.out (by omega)).mono ?_
    rintro e w1 ⟨hb, he⟩
    rcases hp : V.zq s.data.toList with _ | ⟨E, U, R⟩
    ·rw [hp] at he HS
     subst he
     exact zr1
    ·rw [hp] at he HS
     obtain ⟨v, rfl, _⟩ := he
     exact zr1
   ·by_cases n3 : n = 3
    ·subst n3
     have HS : Hid (V.kj 3 s.data.toList = (V.zo 46 s.data.toList).all fun x => V.numb x false) := zpa rfl
     go_enter Tryz.func84, Tryz.ntmps84
     go_wp2_with fail
     refine (jm s 46 _ HM.out (by omega)).mono ?_
     rintro e w4 ⟨rfl, hw4⟩
     have hle := qy 46 s.data.toList
     have hmem := zpa (ji 46 s.data.toList)
     rw [zi] at hle hmem
     obtain ⟨L0, hL0⟩ : ∃ L0, V.zo 46 s.data.toList = L0 := ⟨_, rfl⟩
     rw [hL0] at hw4 hle hmem HS ⊢
     have hcs := zpa (kx hw4)
     have HB4 : Hid (Below w.heap.size w w4) := zpa (by rw [hw4]; exact (zpd _ _).alloc (zpc _) _)
     clear hw4 hL0
     have hnd : ∀ x : V.Bs, V.numb x false = V.digits x := fun x => by unfold V.numb; simp
     have HND := zpa hnd
     clear hnd
     go_wp2
     go_loop [11] (fun i => ∃ k : Nat, k ≤ L0.length /\ i = .int .i64 k /\ (L0.take k).all (fun x => V.numb x false) = true) (fun i => L0.length - (intOf i).toNat)
     case atStart => exact ⟨0, Nat.zero_le _, rfl, rfl⟩
     case round =>
      obtain ⟨k, hk, rfl, hp⟩ := hrel
      have HQ := zpa hp
      clear hp
      by_cases hlt : k < L0.length
      ·have hc := hcs.out k hlt
       have hsz : L0[k].length ≤ s.size := hmem.out _ (List.getElem_mem hlt)
       have HT := zpa (za0 (p := fun x => V.numb x false) hlt)
       rcases hpk : V.digits L0[k] with _ | _
       all_goals
        have HPK := zpa hpk
        clear hpk
        go_wp2_with fail
        refine (zz ⟨L0[k].toArray⟩ _ (by show L0[k].length ≤ _; unfold maxLen; omega)).mono ?_
        rintro e w' ⟨rfl, rfl⟩
        simp only [HPK.out]
        go_wp2
       ·go_ret
        exact ⟨zf (by rw [HF.out, HS.out, zjl (k := k) hlt (by show V.numb _ false = false; rw [HND.out]; exact HPK.out)]), HB4.out⟩
       ·go_round
        case rel => exact ⟨k + 1, by omega, by go_num, by rw [HT.out, HQ.out, HND.out]; exact HPK.out⟩
        case measure => simp [intOf]; omega
      ·have ht : L0.take k = L0 := List.take_of_length_le (by omega)
       rw [ht] at HQ
       clear ht
       go_wp2
       go_ret
       exact ⟨zf (by rw [HF.out, HS.out]; exact HQ.out.symm), HB4.out⟩
    ·have HS : Hid (V.kj n s.data.toList = false) := zpa (by unfold V.kj; simp [n1, n2, n3])
     have b1 : (n == 1) = false := by simpa using n1
     have b2 : (n == 2) = false := by simpa using n2
     have b3 : (n == 3) = false := by simpa using n3
     go_enter Tryz.func84, Tryz.ntmps84
     go_wp2
     go_ret
     exact ⟨zf (by rw [HF.out, HS.out]), zpd _ _⟩
end Go.Proofs.YtbikeahmldobkaaGreatDoor
