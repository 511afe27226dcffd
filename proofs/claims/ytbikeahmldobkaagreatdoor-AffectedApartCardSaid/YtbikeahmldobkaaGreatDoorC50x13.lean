/-
  Lemmas for the law.
-/
import Derived.Test.YtbikeahmldobkaaGreatDoorC50x12
import Derived.Test.YtbikeahmldobkaaGreatDoorC50x09
import Derived.Test.YtbikeahmldobkaaGreatDoorC50x10
import Derived.Test.YtbikeahmldobkaaGreatDoorC50x01
import Derived.Test.YtbikeahmldobkaaGreatDoorC50x11
import Derived.Test.YtbikeahmldobkaaGreatDoorC50x02
import Derived.Test.YtbikeahmldobkaaGreatDoorC50x08
import Derived.StillTailTactics
set_option linter.all false
set_option maxRecDepth 100000
set_option maxHeartbeats 3200000
namespace Go.Proofs.YtbikeahmldobkaaGreatDoor
open Go.RowKit
theorem zlr {r : Option (V.Bs × V.Bs × V.Bs)} {E U R : V.Bs} {w : World} {e : Ending} {w' : World} (h : RDeb r w e w') (hr : r = some (E, U, R)) :
  ∃ b off cap, e = .returned (.tuple #[.slice (some ⟨b, off, none⟩) 3 cap, .bool true]) /\ b < w'.heap.size /\ w'.cell? ⟨b, off, none⟩ = some (.string ⟨(ya E).toArray⟩) /\
   w'.cell? ⟨b, off + 1, none⟩ = some (.string ⟨U.toArray⟩) /\ w'.cell? ⟨b, off + 2, none⟩ = some (.string ⟨R.toArray⟩) /\ Below w.heap.size w w' := by
 subst hr
 obtain ⟨hb, v, rfl, hs⟩ := h
 obtain ⟨b, off, cap, rfl, hlt, hc⟩ := hs.head (by simp)
 exact ⟨b, off, cap, rfl, hlt, hc 0 (by simp), hc 1 (by simp), hc 2 (by simp), hb⟩
theorem zhw (e : V.Bs) : V.value (ya e) = V.value e := by
 unfold ya
 split
 ·rename_i h; subst h; rfl
 ·rfl
theorem zea (x y : V.Bs) (w : World) (hx : x.length ≤ 1000) (hy : y.length ≤ 1000) :
  Calls Tryz.prog 86 #[.string ⟨x.toArray⟩, .string ⟨y.toArray⟩] w fun e w' => e = .returned (.int .i64 (V.numbers x y)) /\ w' = w := by
 have h := zfk ⟨x.toArray⟩ ⟨y.toArray⟩ w (by show x.length ≤ _; unfold maxLen; omega) (by show y.length ≤ _; unfold maxLen; omega)
 simp only  at h
 exact h.mono fun _ _ h => ⟨h.1, h.2.symm⟩
theorem zlh (s t : ByteArray) (x0 x1 x2 y0 y1 y2 : V.Bs) (w : World) (hm : zj w) (hs : s.size ≤ 64) (ht : t.size ≤ 64)
  (hp : V.zz s.data.toList = some (x0, x1, x2)) (hq : V.zz t.data.toList = some (y0, y1, y2)) :
  Calls Tryz.prog 53 #[.string s, .string t] w fun e w' => e = .returned (.int .i64 (V.ul (x0, x1, x2) (y0, y1, y2))) /\ Below w.heap.size w w' := by
 have fa := V.uu hp
 have fb := V.uu hq
 rw [zi] at fa fb
 have ga := V.zd9 hp
 have gb := V.zd9 hq
 obtain ⟨fa0, fa1, fa2⟩ := fa
 obtain ⟨fb0, fb1, fb2⟩ := fb
 simp only at fa0 fa1 fa2 fb0 fb1 fb2
 have GA := zwg ga
 have GB := zwg gb
 have g6 : (ya x0).length ≤ 65 := by unfold ya; split <;> (try simp) <;> omega
 have g7 : (ya y0).length ≤ 65 := by unfold ya; split <;> (try simp) <;> omega
 have HF : Hid (V.ul (x0, x1, x2) (y0, y1, y2) = V.cor (V.numbers (ya x0) (ya y0)) (V.cor (V.qk x1 y1) (V.qk x2 y2))) := zwg (by
   unfold V.ul
   rw [V.zlk (zhw x0) (zhw y0)]
   simp only [V.orI, V.zck])
 obtain ⟨ex, g0⟩ : ∃ x, ya x0 = x := ⟨_, rfl⟩
 obtain ⟨ey, g3⟩ : ∃ x, ya y0 = x := ⟨_, rfl⟩
 rw [g0] at g6 HF
 rw [g3] at g7 HF
 have g8 := zwg g0
 have g9 := zwg g3
 have HP := zwg hp
 have HQ := zwg hq
 have HM := zwg hm
 clear hp hq hm ga gb g0 g3
 go_enter Tryz.func53, Tryz.ntmps53
 go_wp2_with fail
 refine (zec s _ HM.out (by omega)).mono ?_
 rintro e w1 h
 obtain ⟨b, off, cap, rfl, hlt, c0, c1, c2, hb1⟩ := zlr h HP.out
 rw [g8.out] at c0
 have hm1 := HM.out.below hb1
 have HB1 := zwg hb1
 clear h hb1
 go_wp2_with fail
 refine (zec t _ hm1 (by omega)).mono ?_
 rintro e w2 h
 obtain ⟨b', off', cap', rfl, g4, d0, d1, d2, hb2⟩ := zlr h HQ.out
 rw [g9.out] at d0
 have e0 := (hb2.cell (p := ⟨b, off, none⟩) hlt).trans c0
 have e1 := (hb2.cell (p := ⟨b, off + 1, none⟩) hlt).trans c1
 have e2 := (hb2.cell (p := ⟨b, off + 2, none⟩) hlt).trans c2
 have g5 : b < w2.heap.size := Nat.lt_of_lt_of_le hlt hb2.size
 have HB2 := zwh HB1 hb2
 clear h hb2 c0 c1 c2 hlt
 go_wp2_with fail
 go_quiet ((go_at_call 86; exact Calls.quiet_of_same (zea ex ey _ (by omega) (by omega))))
 rename_i nq
 have f1 : (w2.drewN nq).cell? ⟨b, off + 1, none⟩ = some (.string ⟨x1.toArray⟩) := by rw [World.cell?_drewN]; exact e1
 have f2 : (w2.drewN nq).cell? ⟨b, off + 2, none⟩ = some (.string ⟨x2.toArray⟩) := by rw [World.cell?_drewN]; exact e2
 have g1 : (w2.drewN nq).cell? ⟨b', off' + 1, none⟩ = some (.string ⟨y1.toArray⟩) := by rw [World.cell?_drewN]; exact d1
 have g2 : (w2.drewN nq).cell? ⟨b', off' + 2, none⟩ = some (.string ⟨y2.toArray⟩) := by rw [World.cell?_drewN]; exact d2
 have HBW := zwg (below_drewN HB2.out nq)
 have lt1 : b < (w2.drewN nq).heap.size := Nat.lt_of_lt_of_le g5 (below_drewN (zwj w2.heap.size w2) nq).size
 have lt2 : b' < (w2.drewN nq).heap.size := Nat.lt_of_lt_of_le g4 (below_drewN (zwj w2.heap.size w2) nq).size
 clear e0 e1 e2 d0 d1 d2 HB2 g5 g4
 generalize w2.drewN nq = W at *
 by_cases h0 : V.numbers ex ey = 0
 ·have HF2 : Hid (V.ul (x0, x1, x2) (y0, y1, y2) = V.cor (V.qk x1 y1) (V.qk x2 y2)) := zwg (by rw [HF.out, h0]; rfl)
  rw [h0]
  clear h0
  go_wp2
  go_still_tail 6, (by kernel_rfl)
  change wpList _ _ _ _ _ W.drew
  have k2 : W.drew.cell? ⟨b, off + 2, none⟩ = some (.string ⟨x2.toArray⟩) := by rw [World.cell?_drew]; exact f2
  have l2 : W.drew.cell? ⟨b', off' + 2, none⟩ = some (.string ⟨y2.toArray⟩) := by rw [World.cell?_drew]; exact g2
  have HBV := zwg HBW.out.drew
  have lt1' : b < W.drew.heap.size := lt1
  have lt2' : b' < W.drew.heap.size := lt2
  clear f1 f2 g1 g2 lt1 lt2 HBW
  generalize W.drew = W2 at *
  go_wp2_with fail
  refine (zqt x1 y1 _ (by omega) (by omega) GA.out.1 GB.out.1).mono ?_
  rintro e w3 ⟨rfl, hb3⟩
  have m2 := (hb3.cell (p := ⟨b, off + 2, none⟩) lt1').trans k2
  have n2 := (hb3.cell (p := ⟨b', off' + 2, none⟩) lt2').trans l2
  have HB3 := zwh HBV hb3
  clear k2 l2 lt1' lt2' hb3 HBV
  by_cases h0 : V.qk x1 y1 = 0
  ·have HF3 : Hid (V.ul (x0, x1, x2) (y0, y1, y2) = V.qk x2 y2) := zwg (by rw [HF2.out, h0]; rfl)
   rw [h0]
   clear h0
   go_wp2
   go_still_tail 6, (by kernel_rfl)
   change wpList _ _ _ _ _ w3.drew
   have HBV := zwg HB3.out.drew
   clear m2 n2 HB3
   generalize w3.drew = W4 at *
   go_wp2_with fail
   refine (zqt x2 y2 _ (by omega) (by omega) GA.out.2 GB.out.2).mono ?_
   rintro e w5 ⟨rfl, hb5⟩
   have HB5 := zwh HBV hb5
   clear hb5
   go_wp2
   go_ret
   exact ⟨zv HF3.out.symm, HB5.out⟩
  ·have HF3 : Hid (V.ul (x0, x1, x2) (y0, y1, y2) = V.qk x1 y1) := zwg (by rw [HF2.out, V.ke h0])
   have hb : (V.qk x1 y1 != 0) = true := by simpa using h0
   generalize V.qk x1 y1 = c at *
   clear h0
   go_wp2
   go_ret
   exact ⟨zv HF3.out.symm, HB3.out⟩
 ·have HF2 : Hid (V.ul (x0, x1, x2) (y0, y1, y2) = V.numbers ex ey) := zwg (by rw [HF.out, V.ke h0])
  have hb : (V.numbers ex ey != 0) = true := by simpa using h0
  generalize V.numbers ex ey = c at *
  clear h0
  go_wp2
  go_ret
  exact ⟨zv HF2.out.symm, HBW.out⟩
theorem zln (s : ByteArray) (hs : s.size ≤ 64) : (V.zm 46 s.data.toList).length ≤ 65 /\ ∀ j, ((V.zm 46 s.data.toList).getD j [48]).length ≤ 65 := by
 have h1 := jm 46 s.data.toList
 have h2 := ki 46 s.data.toList
 rw [zi] at h1 h2
 refine ⟨by omega, fun j => ?_⟩
 rw [List.getD_eq_getElem?_getD]
 rcases hk : (V.zm 46 s.data.toList)[j]? with _ | x
 ·simp
 ·have := h2 x (List.mem_of_getElem? hk); simp; omega
theorem zxp {P : Prop} (h : P := by
 have HN := zwg (HNEXT.out h0)
 rw [h0]
 clear h0
 have hk2 := hkm.out
 go_wp2
 go_round
 case rel => exact ⟨k + 1, by omega, by go_num, HN.out⟩
 case measure => simp [intOf]; omega) : P := h
theorem zqr (s t : ByteArray) (w : World) (hm : zj w) (hs : s.size ≤ 64) (ht : t.size ≤ 64) :
  Calls Tryz.prog 54 #[.string s, .string t] w fun e w' => e = .returned (.int .i64 (V.zbl s.data.toList t.data.toList)) /\ Below w.heap.size w w' := by
 have HF := zwg (V.pad_dots s.data.toList t.data.toList)
 have g9 := zln s hs
 have hlt := zln t ht
 obtain ⟨L, hL⟩ : ∃ L, V.zm 46 s.data.toList = L := ⟨_, rfl⟩
 obtain ⟨M, hM⟩ : ∃ M, V.zm 46 t.data.toList = M := ⟨_, rfl⟩
 rw [hL] at g9 HF
 rw [hM] at hlt HF
 obtain ⟨l1, g7⟩ := g9
 obtain ⟨m1, g8⟩ := hlt
 have g7 := zwg g7
 have g8 := zwg g8
 have h1 := zwg hm
 have HL := zwg hL
 have HM := zwg hM
 clear hm hL hM
 go_enter Tryz.func54, Tryz.ntmps54
 go_wp2_with fail
 refine (ku s 46 _ h1.out (by omega)).mono ?_
 rintro e w1 ⟨rfl, g3⟩
 rw [HL.out] at g3 ⊢
 have hb1 : Below w.heap.size w w1 := by rw [g3]; exact (zwj _ _).alloc (zwi _) _
 have c1 := uj g3
 have z1 : w.heap.size < w1.heap.size := by rw [g3]; simp
 clear g3
 go_wp2_with fail
 refine (ku t 46 _ (h1.out.below hb1) (by omega)).mono ?_
 rintro e w2 ⟨rfl, g4⟩
 rw [HM.out] at g4 ⊢
 have hb2 : Below w1.heap.size w1 w2 := by rw [g4]; exact (zwj _ _).alloc (zwi _) _
 have h2 : Hid (∀ (j : Nat) (_ : j < L.length), w2.cell? ⟨w.heap.size, j, none⟩ = some (.string ⟨(L.getD j [48]).toArray⟩)) := zwg (fun j hj => by
   rw [hb2.cell (p := ⟨w.heap.size, j, none⟩) z1, c1 j hj, List.getD_eq_getElem?_getD, List.getElem?_eq_getElem hj]; rfl)
 have h3 : Hid (∀ (j : Nat) (_ : j < M.length), w2.cell? ⟨w1.heap.size, j, none⟩ = some (.string ⟨(M.getD j [48]).toArray⟩)) := zwg (fun j hj => by
   rw [uj g4 j hj, List.getD_eq_getElem?_getD, List.getElem?_eq_getElem hj]; rfl)
 have HB2 := zwg (hb1.trans (hb2.mono hb1.size))
 clear hb1 hb2 c1 z1 g4
 go_wp2
 go_loop [7] (fun i => ∃ k : Nat, k ≤ max L.length M.length /\ i = .int .i64 k /\ ∀ j, j < k -> V.numbers (L.getD j [48]) (M.getD j [48]) = 0) (fun i => max L.length M.length - (intOf i).toNat)
 case atStart => exact ⟨0, Nat.zero_le _, rfl, fun j hj => by omega⟩
 case round =>
  obtain ⟨k, hk, rfl, hz⟩ := hrel
  have HZ := zwg hz
  clear hz
  by_cases hor : k < L.length ∨ k < M.length
  ·have hsl := g7.out k
   have h4 := g8.out k
   have g0 := zwg (V.pad_hit k L M HZ.out hor)
   obtain ⟨x, hx⟩ : ∃ x, L.getD k [48] = x := ⟨_, rfl⟩
   obtain ⟨y, hy⟩ : ∃ y, M.getD k [48] = y := ⟨_, rfl⟩
   have HX := zwg hx
   have HY := zwg hy
   have g1 := h2.out k
   have g2 := h3.out k
   rw [hx] at hsl g1 g0
   rw [hy] at h4 g2 g0
   have g5 : ¬ k < L.length -> x = [48] := fun h => by rw [← hx, List.getD_eq_getElem?_getD, List.getElem?_eq_none (by omega)]; rfl
   have g6 : ¬ k < M.length -> y = [48] := fun h => by rw [← hy, List.getD_eq_getElem?_getD, List.getElem?_eq_none (by omega)]; rfl
   have HNEXT : Hid (V.numbers x y = 0 -> ∀ j, j < k + 1 -> V.numbers (L.getD j [48]) (M.getD j [48]) = 0) := zwg (fun h0 j hj => by
     by_cases e : j = k
     · subst e; rw [HX.out, HY.out]; exact h0
     · exact HZ.out j (by omega))
   have hkm : Hid (k < max L.length M.length) := zwg (by omega)
   clear hx hy
   have three : (k < L.length /\ k < M.length) ∨ (k < L.length /\ ¬ k < M.length) ∨ (¬ k < L.length /\ k < M.length) := by omega
   clear hor
   rcases three with ⟨a1, a2⟩ | ⟨a1, a2⟩ | ⟨a1, a2⟩
   ·have d1 := g1 a1
    have d2 := g2 a2
    clear g5 g6 g1 g2
    go_wp2_with fail
    refine (zea x y _ (by omega) (by omega)).mono ?_
    rintro e w' ⟨rfl, rfl⟩
    by_cases h0 : V.numbers x y = 0
    ·exact zxp
    ·have HR : Hid (V.zbl s.data.toList t.data.toList = V.numbers x y) := zwg (by rw [← HF.out]; exact g0.out h0)
     have hb : (V.numbers x y != 0) = true := by simpa using h0
     generalize V.numbers x y = c at *
     exact z0j
   ·have d1 := g1 a1
    obtain rfl := g6 a2
    clear g5 g6 g1 g2
    go_wp2_with fail
    refine (zea x [48] _ (by omega) (by simp)).mono ?_
    rintro e w' ⟨rfl, rfl⟩
    by_cases h0 : V.numbers x [48] = 0
    ·exact zxp
    ·have HR : Hid (V.zbl s.data.toList t.data.toList = V.numbers x [48]) := zwg (by rw [← HF.out]; exact g0.out h0)
     have hb : (V.numbers x [48] != 0) = true := by simpa using h0
     generalize V.numbers x [48] = c at *
     exact z0j
   ·have d2 := g2 a2
    obtain rfl := g5 a1
    clear g5 g6 g1 g2
    go_wp2_with fail
    refine (zea [48] y _ (by simp) (by omega)).mono ?_
    rintro e w' ⟨rfl, rfl⟩
    by_cases h0 : V.numbers [48] y = 0
    ·exact zxp
    ·have HR : Hid (V.zbl s.data.toList t.data.toList = V.numbers [48] y) := zwg (by rw [← HF.out]; exact g0.out h0)
     have hb : (V.numbers [48] y != 0) = true := by simpa using h0
     generalize V.numbers [48] y = c at *
     exact z0j
  ·have HE : Hid (V.zbl s.data.toList t.data.toList = 0) := zwg (by rw [← HF.out]; exact V.pad_end k L M HZ.out hor)
   have a1 : ¬ k < L.length := by omega
   have a2 : ¬ k < M.length := by omega
   clear hor
   go_wp2
   go_ret
   exact ⟨zv HE.out.symm, HB2.out⟩
theorem zhz {s : ByteArray} (h : 1 ≤ s.size) : s.toList.isEmpty = false := by
 rw [Lib.toList_data]
 have : 0 < s.data.toList.length := by rw [zi]; omega
 cases hl : s.data.toList with
 | nil => rw [hl] at this; simp at this
 | cons => rfl
theorem zzj {P : Prop} (h : P := by
 go_enter Tryz.func84, Tryz.ntmps84
 go_wp2
 go_ret
 exact ⟨zg HF.out.symm, zwj _ _⟩) : P := h
theorem zz4 {P : Prop} (h : P := by
 go_wp2
 go_ret
 exact ⟨zg (by rw [HF.out, HS.out]; rfl), hb⟩) : P := h
theorem kr (n : Int) (s : ByteArray) (w : World) (hm : zj w) (hs : s.size ≤ maxLen) :
  Calls Tryz.prog 84 #[.int .i64 n, .string s] w fun e w' => e = .returned (.bool (V.valid n s.data.toList)) /\ Below w.heap.size w w' := by
 unfold maxLen at hs
 have HM := zwg hm
 clear hm
 by_cases g0 : s.size = 0 ∨ 64 < s.size
 ·have HF : Hid (V.valid n s.data.toList = false) := zwg (by
    unfold V.valid
    rw [zi]
    rcases g0 with h | h
    · rw [h]; rfl
    · have : decide (s.size ≤ 64) = false := by simp; omega
      rw [this]; simp)
  rcases g0 with h0 | h4
  ·have he : s = ⟨#[]⟩ := ye (by
     have : s.data.toList = [] := List.eq_nil_of_length_eq_zero (by rw [zi]; exact h0)
     rw [this])
   subst he
   exact zzj
  ·have g3 : s.toList.isEmpty = false := zhz (by omega)
   have g9 : ¬ s.toList = [] := by simpa using g3
   exact zzj
 ·have h1 : 1 ≤ s.size := by omega
  have h2 : s.size ≤ 64 := by omega
  have HF : Hid (V.valid n s.data.toList = V.yn n s.data.toList) := zwg (by
    unfold V.valid
    rw [zi]
    simp [h1, h2])
  have g3 : s.toList.isEmpty = false := zhz h1
  have g9 : ¬ s.toList = [] := by simpa using g3
  have h3 : (s.size : Int) ≤ 64 := by omega
  clear g0
  by_cases n1 : n = 1
  ·subst n1
   have HS : Hid (V.yn 1 s.data.toList = (V.zo s.data.toList).isSome) := zwg rfl
   go_enter Tryz.func84, Tryz.ntmps84
   go_wp2_with fail
   refine (zd0 s _ HM.out (by omega)).mono ?_
   rintro e w1 ⟨hb, he⟩
   rcases hp : V.zo s.data.toList with _ | ⟨l, ids⟩
   ·rw [hp] at he HS
    subst he
    exact zz4
   ·rw [hp] at he HS
    obtain ⟨v, u, rfl, _, _⟩ := he
    exact zz4
  ·by_cases n2 : n = 2
   ·subst n2
    have HS : Hid (V.yn 2 s.data.toList = (V.zz s.data.toList).isSome) := zwg rfl
    go_enter Tryz.func84, Tryz.ntmps84
    go_wp2_with fail
    refine (zec s _ HM.out (by omega)).mono ?_
    rintro e w1 ⟨hb, he⟩
    rcases hp : V.zz s.data.toList with _ | ⟨E, U, R⟩
    ·rw [hp] at he HS
     subst he
     exact zz4
    ·rw [hp] at he HS
     obtain ⟨v, rfl, _⟩ := he
     exact zz4
   ·by_cases n3 : n = 3
    ·subst n3
     have HS : Hid (V.yn 3 s.data.toList = (V.zm 46 s.data.toList).all fun x => V.numb x false) := zwg rfl
     go_enter Tryz.func84, Tryz.ntmps84
     go_wp2_with fail
     refine (ku s 46 _ HM.out (by omega)).mono ?_
     rintro e w4 ⟨rfl, g2⟩
     have g4 := jm 46 s.data.toList
     have g1 := zwg (ki 46 s.data.toList)
     rw [zi] at g4 g1
     obtain ⟨L0, g5⟩ : ∃ L0, V.zm 46 s.data.toList = L0 := ⟨_, rfl⟩
     rw [g5] at g2 g4 g1 HS ⊢
     have hcs := zwg (uj g2)
     have HB4 : Hid (Below w.heap.size w w4) := zwg (by rw [g2]; exact (zwj _ _).alloc (zwi _) _)
     clear g2 g5
     have g6 : ∀ x : V.Bs, V.numb x false = V.digits x := fun x => by unfold V.numb; simp
     have g7 := zwg g6
     clear g6
     go_wp2
     go_loop [11] (fun i => ∃ k : Nat, k ≤ L0.length /\ i = .int .i64 k /\ (L0.take k).all (fun x => V.numb x false) = true) (fun i => L0.length - (intOf i).toNat)
     case atStart => exact ⟨0, Nat.zero_le _, rfl, rfl⟩
     case round =>
      obtain ⟨k, hk, rfl, hp⟩ := hrel
      have HQ := zwg hp
      clear hp
      by_cases hlt : k < L0.length
      ·have hc := hcs.out k hlt
       have h5 : L0[k].length ≤ s.size := g1.out _ (List.getElem_mem hlt)
       have HT := zwg (zef (p := fun x => V.numb x false) hlt)
       rcases g8 : V.digits L0[k] with _ | _
       all_goals
        have HPK := zwg g8
        clear g8
        go_wp2_with fail
        refine (qm ⟨L0[k].toArray⟩ _ (by show L0[k].length ≤ _; unfold maxLen; omega)).mono ?_
        rintro e w' ⟨rfl, rfl⟩
        simp only [HPK.out]
        go_wp2
       ·go_ret
        exact ⟨zg (by rw [HF.out, HS.out, zok (k := k) hlt (by show V.numb _ false = false; rw [g7.out]; exact HPK.out)]), HB4.out⟩
       ·go_round
        case rel => exact ⟨k + 1, by omega, by go_num, by rw [HT.out, HQ.out, g7.out]; exact HPK.out⟩
        case measure => simp [intOf]; omega
      ·have ht : L0.take k = L0 := List.take_of_length_le (by omega)
       rw [ht] at HQ
       clear ht
       go_wp2
       go_ret
       exact ⟨zg (by rw [HF.out, HS.out]; exact HQ.out.symm), HB4.out⟩
    ·have HS : Hid (V.yn n s.data.toList = false) := zwg (by unfold V.yn; simp [n1, n2, n3])
     have b1 : (n == 1) = false := by simpa using n1
     have b2 : (n == 2) = false := by simpa using n2
     have b3 : (n == 3) = false := by simpa using n3
     go_enter Tryz.func84, Tryz.ntmps84
     go_wp2
     go_ret
     exact ⟨zg (by rw [HF.out, HS.out]), zwj _ _⟩
open Go.RowKit
theorem zlc (x y : V.Bs) (w : World) (hx : x.length ≤ 1000) (hy : y.length ≤ 1000) :
  Calls Tryz.prog 87 #[.string ⟨x.toArray⟩, .string ⟨y.toArray⟩] w fun e w' => e = .returned (.int .i64 (V.kf x y)) /\ w' = w := by
 have h := zii ⟨x.toArray⟩ ⟨y.toArray⟩ w (by show x.length ≤ _; unfold maxLen; omega) (by show y.length ≤ _; unfold maxLen; omega)
 simp only  at h
 exact h.mono fun _ _ h => ⟨h.1, h.2.symm⟩
theorem zm0 {s : V.Bs} {l pre : List V.Bs} (h : V.zo s = some (l, pre)) : l.length = 3 := by
 unfold V.zo at h
 split at h
 ·cases h
 ·rename_i hn
  split at h
  ·simp only [Option.some.injEq, Prod.mk.injEq] at h
   obtain ⟨rfl, _⟩ := h
   simp only [Bool.or_eq_true, not_or] at hn
   simpa using hn.2
  ·cases h
theorem ztx {s : V.Bs} {l pre : List V.Bs} (h : V.zo s = some (l, pre)) : pre.length ≤ s.length + 1 := by
 unfold V.zo at h
 split at h
 ·cases h
 ·split at h
  ·simp only [Option.some.injEq, Prod.mk.injEq] at h
   obtain ⟨_, h⟩ := h
   have h1 := V.zgh 43 s
   have h2 := V.zgh 45 (V.cut1 43 s).1
   have h3 := jm 46 (V.cut1 45 (V.cut1 43 s).1).2.1
   split at h
   ·subst h; omega
   ·subst h; simp
  ·cases h
theorem sem_hit (x y : List V.Bs × List V.Bs) (k : Nat) (hk : k < 3) (h : ∀ j, j < k -> V.numbers (x.1.getD j []) (y.1.getD j []) = 0) (h0 : V.numbers (x.1.getD k []) (y.1.getD k []) ≠ 0) :
  V.jl x y = V.numbers (x.1.getD k []) (y.1.getD k []) := by
 have h3 : k = 0 ∨ k = 1 ∨ k = 2 := by omega
 unfold V.jl
 rcases h3 with rfl | rfl | rfl
 ·simp only [V.orI, V.ke h0]
 ·simp only [V.orI, h 0 (by omega), V.uy, V.ke h0]
 ·simp only [V.orI, h 0 (by omega), h 1 (by omega), V.uy, V.ke h0]
theorem sem_zero (x y : List V.Bs × List V.Bs) (h : ∀ j, j < 3 -> V.numbers (x.1.getD j []) (y.1.getD j []) = 0) : V.jl x y = V.zdk x.2 y.2 := by
 unfold V.jl
 simp only [V.orI, h 0 (by omega), h 1 (by omega), h 2 (by omega), V.uy]
theorem zm3 {r : Option (List V.Bs × List V.Bs)} {l pre : List V.Bs} {w : World} {e : Ending} {w' : World} (h : RSem r w e w') (hr : r = some (l, pre)) (h3 : l.length = 3) :
  ∃ b off cap a c, e = .returned (.tuple #[.slice (some ⟨b, off, none⟩) 3 cap, .slice a pre.length c, .bool true]) /\ b < w'.heap.size /\ (∀ j, j < 3 -> w'.cell? ⟨b, off + j, none⟩ = some (.string ⟨(l.getD j []).toArray⟩)) /\
   Strs w' (.slice a pre.length c) pre /\ Below w.heap.size w w' := by
 subst hr
 obtain ⟨hb, v, u, rfl, hs, hu⟩ := h
 obtain ⟨b, off, cap, rfl, hlt, hc⟩ := hs.head (by omega)
 have g0 := hu
 obtain ⟨a, c, rfl⟩ := hu.slice
 rw [h3] at hc
 exact ⟨b, off, cap, a, c, by rw [h3], hlt, hc, g0, hb⟩
theorem zze {P : Prop} (h : P := by
 go_wp2_with fail
 refine (zhh _ _).mono ?_
 rintro e w' ⟨rfl, rfl⟩
 go_wp2
 go_ret
 exact ⟨zv HR.out.symm, HB2.out.trans (HB.out.mono HB2.out.size)⟩) : P := h
theorem zla (s t : ByteArray) (la pa lb pb : List V.Bs) (w : World) (hm : zj w) (hs : s.size ≤ 64) (ht : t.size ≤ 64)
  (hp : V.zo s.data.toList = some (la, pa)) (hq : V.zo t.data.toList = some (lb, pb)) :
  Calls Tryz.prog 52 #[.string s, .string t] w fun e w' => e = .returned (.int .i64 (V.jl (la, pa) (lb, pb))) /\ Below w.heap.size w w' := by
 have fa := V.uw hp
 have fb := V.uw hq
 have na := ztx hp
 have nb := ztx hq
 rw [zi] at fa fb na nb
 have GA : Hid (∀ j, (la.getD j []).length ≤ 64) := zwg (fun j => by have := V.zer fa.1 j; omega)
 have GB : Hid (∀ j, (lb.getD j []).length ≤ 64) := zwg (fun j => by have := V.zer fb.1 j; omega)
 have IA : Hid (∀ j, (pa.getD j []).length ≤ 64) := zwg (fun j => by have := V.zer (fun x hx => (fa.2 x hx).1) j; omega)
 have IB : Hid (∀ j, (pb.getD j []).length ≤ 64) := zwg (fun j => by have := V.zer (fun x hx => (fb.2 x hx).1) j; omega)
 have hpa : pa.length ≤ 65 := by omega
 have h9 : pb.length ≤ 65 := by omega
 have T1 := zwg (zm0 hp)
 have T2 := zwg (zm0 hq)
 have HP := zwg hp
 have HQ := zwg hq
 have HM := zwg hm
 clear hp hq hm fa fb na nb
 go_enter Tryz.func52, Tryz.ntmps52
 go_wp2_with fail
 refine (zd0 s _ HM.out (by omega)).mono ?_
 rintro e w1 h
 obtain ⟨b1, o1, cap1, a3, c3, rfl, lt1, hc1, g4, hb1⟩ := zm3 h HP.out T1.out
 have hm1 := HM.out.below hb1
 have HB1 := zwg hb1
 have g5 := zwg hc1
 have g6 := zwg g4
 clear h hb1 hc1 g4
 go_wp2_with fail
 refine (zd0 t _ hm1 (by omega)).mono ?_
 rintro e w2 h
 obtain ⟨b2, o2, cap2, a4, c4, rfl, lt2, g7, g8, hb2⟩ := zm3 h HQ.out T2.out
 have lt1' : b1 < w2.heap.size := Nat.lt_of_lt_of_le lt1 hb2.size
 have g9 : Hid (∀ j, j < 3 -> w2.cell? ⟨b1, o1 + j, none⟩ = some (.string ⟨(la.getD j []).toArray⟩)) := zwg (fun j hj => (hb2.cell (p := ⟨b1, o1 + j, none⟩) lt1).trans (g5.out j hj))
 have h3 := zwg g7
 have g2 := zwg (g6.out.below hb2)
 have g3 := zwg g8
 have HB2 := zwh HB1 hb2
 clear h hb2 g7 g8 g5 g6 hm1 lt1
 go_wp2
 go_loopw [11] (fun i wr => ∃ k : Nat, k ≤ 3 /\ i = .int .i64 k /\ (∀ j, j < k -> V.numbers (la.getD j []) (lb.getD j []) = 0) /\ Below w2.heap.size w2 wr) (fun i _ => 3 - (intOf i).toNat)
 case atStart => exact ⟨0, Nat.zero_le _, rfl, fun j hj => by omega, zwj _ _⟩
 case round =>
  obtain ⟨k, hk, rfl, hz, hB⟩ := hrel
  have HZ := zwg hz
  have HB := zwg hB
  clear hz hB
  by_cases hlt : k < 3
  ·have hx := (HB.out.cell (p := ⟨b1, o1 + k, none⟩) lt1').trans (g9.out k hlt)
   have hy := (HB.out.cell (p := ⟨b2, o2 + k, none⟩) lt2).trans (h3.out k hlt)
   have h4 := GA.out k
   have h5 := GB.out k
   have g0 := zwg (sem_hit (la, pa) (lb, pb) k hlt HZ.out)
   have HNEXT : Hid (V.numbers (la.getD k []) (lb.getD k []) = 0 -> ∀ j, j < k + 1 -> V.numbers (la.getD j []) (lb.getD j []) = 0) := zwg (fun h0 j hj => by
     by_cases e : j = k
     · subst e; exact h0
     · exact HZ.out j (by omega))
   simp only at g0
   generalize la.getD k [] = x at *
   generalize lb.getD k [] = y at *
   go_wp2
   go_quiet ((go_at_call 86; exact Calls.quiet_of_same (zea x y _ (by omega) (by omega))))
   rename_i nq
   have HB5 := zwg (below_drewN HB.out nq)
   clear hx hy
   generalize wr.drewN nq = W at *
   by_cases h0 : V.numbers x y = 0
   ·have HN := zwg (HNEXT.out h0)
    rw [h0]
    clear h0
    go_wp2
    go_roundw
    case rel => exact ⟨k + 1, by omega, by go_num, HN.out, HB5.out⟩
    case measure => simp [intOf]; omega
   ·have HR : Hid (V.jl (la, pa) (lb, pb) = V.numbers x y) := zwg (g0.out h0)
    have hb : (V.numbers x y != 0) = true := by simpa using h0
    generalize V.numbers x y = c at *
    clear h0
    go_wp2
    go_ret
    exact ⟨zv HR.out.symm, HB2.out.trans (HB5.out.mono HB2.out.size)⟩
  ·obtain rfl : k = 3 := by omega
   have HF : Hid (V.jl (la, pa) (lb, pb) = V.zdk pa pb) := zwg (sem_zero _ _ HZ.out)
   have hP : Hid (V.zdk pa pb = if pa.isEmpty || pb.isEmpty then Lib.compareInt pb.length pa.length else V.je V.kf pa pb) := rfl
   have HBE := zwg (HB2.out.trans (HB.out.mono HB2.out.size))
   clear hlt
   by_cases h1 : pa.length = 0
   ·have b1e : ((pa.length : Int) == 0) = true := by rw [h1]; rfl
    have b1g : ¬ (0 < pa.length) := by omega
    have HF3 : Hid (V.jl (la, pa) (lb, pb) = Lib.compareInt pb.length 0) := zwg (by
      rw [HF.out, hP.out, if_pos (by rw [List.eq_nil_of_length_eq_zero h1]; rfl), h1]; rfl)
    clear h1
    by_cases h2 : 0 < pb.length
    ·have g1 : Hid (V.jl (la, pa) (lb, pb) = 1) := zwg (by
       rw [HF3.out]; unfold Lib.compareInt; rw [if_neg (by omega), if_pos (by omega)])
     go_wp2
     go_ret
     exact ⟨zv g1.out.symm, HBE.out⟩
    ·have g1 : Hid (V.jl (la, pa) (lb, pb) = 0) := zwg (by
       rw [HF3.out]; unfold Lib.compareInt; rw [if_neg (by omega), if_neg (by omega)])
     go_wp2
     go_ret
     exact ⟨zv g1.out.symm, HBE.out⟩
   ·have b1e : ((pa.length : Int) == 0) = false := by rw [zwk]; omega
    have b1g : 0 < pa.length := by omega
    by_cases h2 : pb.length = 0
    ·have b2e : ((pb.length : Int) == 0) = true := by rw [h2]; rfl
     have g1 : Hid (V.jl (la, pa) (lb, pb) = -1) := zwg (by
       rw [HF.out, hP.out, if_pos (by rw [List.eq_nil_of_length_eq_zero h2]; simp), h2]; unfold Lib.compareInt; rw [if_pos (by simp; omega)])
     clear h1 h2
     go_wp2
     go_ret
     exact ⟨zv g1.out.symm, HBE.out⟩
    ·have b2e : ((pb.length : Int) == 0) = false := by rw [zwk]; omega
     have b2g : 0 < pb.length := by omega
     have HF3 : Hid (V.jl (la, pa) (lb, pb) = V.je V.kf pa pb) := zwg (by
       rw [HF.out, hP.out, if_neg]
       cases pa <;> cases pb <;> simp at h1 h2 ⊢)
     clear h1 h2
     obtain ⟨b5, o5, e5, lt5, _⟩ := g2.out.at 0 b1g
     obtain ⟨b6, o6, e6, lt6, _⟩ := g3.out.at 0 b2g
     have h6 : Hid (∀ j, j < pa.length -> w2.cell? ⟨b5, o5 + j, none⟩ = some (.string ⟨(pa.getD j []).toArray⟩)) := zwg (fun j hj => by
       obtain ⟨b', o', e', _, h⟩ := g2.out.at j hj
       rw [e5] at e'; cases e'; exact h)
     have h7 : Hid (∀ j, j < pb.length -> w2.cell? ⟨b6, o6 + j, none⟩ = some (.string ⟨(pb.getD j []).toArray⟩)) := zwg (fun j hj => by
       obtain ⟨b', o', e', _, h⟩ := g3.out.at j hj
       rw [e6] at e'; cases e'; exact h)
     subst e5 e6
     clear g2 g3
     obtain ⟨wo, h8⟩ : ∃ wo : World, wo = wr := ⟨_, rfl⟩
     subst h8
     go_wp2
     go_loopw [13] (fun i wr => ∃ k : Nat, k ≤ pa.length /\ k ≤ pb.length /\ i = .int .i64 k /\ (∀ j, j < k -> V.kf (pa.getD j []) (pb.getD j []) = 0) /\ Below w2.heap.size w2 wr) (fun i _ => pa.length - (intOf i).toNat)
     case atStart => exact ⟨0, Nat.zero_le _, Nat.zero_le _, rfl, fun j hj => by omega, HB.out⟩
     case round =>
      obtain ⟨k, j0, hk2, rfl, hz, hB⟩ := hrel
      have HZ := zwg hz
      have HB := zwg hB
      clear hz hB
      by_cases hlt1 : k < pa.length
      ·by_cases hlt2 : k < pb.length
       ·have hx := (HB.out.cell (p := ⟨b5, o5 + k, none⟩) lt5).trans (h6.out k hlt1)
        have hy := (HB.out.cell (p := ⟨b6, o6 + k, none⟩) lt6).trans (h7.out k hlt2)
        have h4 := IA.out k
        have h5 := IB.out k
        have g0 := zwg (zh6 k pa pb hlt1 hlt2 HZ.out)
        have HNEXT : Hid (V.kf (pa.getD k []) (pb.getD k []) = 0 -> ∀ j, j < k + 1 -> V.kf (pa.getD j []) (pb.getD j []) = 0) := zwg (fun h0 j hj => by
          by_cases e : j = k
          · subst e; exact h0
          · exact HZ.out j (by omega))
        generalize pa.getD k [] = x at *
        generalize pb.getD k [] = y at *
        go_wp2
        go_quiet ((go_at_call 87; exact Calls.quiet_of_same (zlc x y _ (by omega) (by omega))))
        rename_i nq
        have HB5 := zwg (below_drewN HB.out nq)
        clear hx hy
        generalize wr.drewN nq = W at *
        by_cases h0 : V.kf x y = 0
        ·have HN := zwg (HNEXT.out h0)
         rw [h0]
         clear h0
         go_wp2
         go_roundw
         case rel => exact ⟨k + 1, by omega, by omega, by go_num, HN.out, HB5.out⟩
         case measure => simp [intOf]; omega
        ·have HR : Hid (V.jl (la, pa) (lb, pb) = V.kf x y) := zwg (by rw [HF3.out]; exact g0.out h0)
         have hb : (V.kf x y != 0) = true := by simpa using h0
         generalize V.kf x y = c at *
         clear h0
         go_wp2
         go_ret
         exact ⟨zv HR.out.symm, HB2.out.trans (HB5.out.mono HB2.out.size)⟩
       ·have HR : Hid (V.jl (la, pa) (lb, pb) = V.sgn ((pa.length : Int) - pb.length)) := zwg (by
          rw [HF3.out, zf2 k pa pb hlt1 (by omega) HZ.out]; unfold V.sgn; rw [if_neg (by omega), if_pos (by omega)])
        exact zze
      ·have HR : Hid (V.jl (la, pa) (lb, pb) = V.sgn ((pa.length : Int) - pb.length)) := zwg (by
         rw [HF3.out, zfb k pa pb (by omega) hk2 HZ.out]; unfold V.sgn
         by_cases hl : k < pb.length
         · rw [if_pos hl, if_pos (by omega)]
         · rw [if_neg hl, if_neg (by omega), if_neg (by omega)])
       exact zze
theorem xf (n : Int) (w : World) :
  Calls Tryz.prog 83 #[.int .i64 n] w fun e w' => e = .returned (.bool (V.scheme n)) /\ w = w' := by
 have hs : V.scheme n = (decide (1 ≤ n) && decide (n ≤ 3)) := by
  rw [Bool.eq_iff_iff]; unfold V.scheme; simp; omega
 have HS := zwg hs
 clear hs
 go_enter Tryz.func83, Tryz.ntmps83
 go_wp2
 all_goals go_ret
 all_goals exact ⟨zg (by rw [HS.out]; simp_all; try omega), rfl⟩
theorem zy1 {P : Prop} (h : P := by
 rintro e w1 ⟨rfl, hb⟩
 have HB := zwg hb
 clear hb
 go_wp2
 go_ret
 exact ⟨zv HC.out.symm, HB.out⟩) : P := h
theorem kz (n : Int) (s t : ByteArray) (w : World) (hm : zj w) (hn : V.scheme n = true) (hs : V.valid n s.data.toList = true) (ht : V.valid n t.data.toList = true) :
  Calls Tryz.prog 29 #[.int .i64 n, .string s, .string t] w fun e w' => e = .returned (.int .i64 (V.cmpV n s.data.toList t.data.toList)) /\ Below w.heap.size w w' := by
 have l1 := V.yg hs
 have l2 := V.yg ht
 rw [zi] at l1 l2
 have HM := zwg hm
 have h3 : n = 1 ∨ n = 2 ∨ n = 3 := by unfold V.scheme at hn; simpa [or_assoc] using hn
 rcases h3 with rfl | rfl | rfl
 ·obtain ⟨⟨la, pa⟩, e1⟩ := Option.isSome_iff_exists.1 (show (V.zo s.data.toList).isSome = true by unfold V.valid V.yn at hs; simp at hs; exact hs.2)
  obtain ⟨⟨lb, pb⟩, e2⟩ := Option.isSome_iff_exists.1 (show (V.zo t.data.toList).isSome = true by unfold V.valid V.yn at ht; simp at ht; exact ht.2)
  have HC : Hid (V.cmpV 1 s.data.toList t.data.toList = V.jl (la, pa) (lb, pb)) := zwg (by unfold V.cmpV; rw [if_pos rfl, e1, e2])
  have E1 := zwg e1
  have E2 := zwg e2
  clear e1 e2 hs ht hm hn
  go_enter Tryz.func29, Tryz.ntmps29
  go_wp2_with fail
  refine (zla s t la pa lb pb _ HM.out l1 l2 E1.out E2.out).mono ?_
  exact zy1
 ·obtain ⟨⟨x0, x1, x2⟩, e1⟩ := Option.isSome_iff_exists.1 (show (V.zz s.data.toList).isSome = true by unfold V.valid V.yn at hs; simp at hs; exact hs.2)
  obtain ⟨⟨y0, y1, y2⟩, e2⟩ := Option.isSome_iff_exists.1 (show (V.zz t.data.toList).isSome = true by unfold V.valid V.yn at ht; simp at ht; exact ht.2)
  have HC : Hid (V.cmpV 2 s.data.toList t.data.toList = V.ul (x0, x1, x2) (y0, y1, y2)) := zwg (by unfold V.cmpV; rw [if_neg (by decide), if_pos rfl, e1, e2])
  have E1 := zwg e1
  have E2 := zwg e2
  clear e1 e2 hs ht hm hn
  go_enter Tryz.func29, Tryz.ntmps29
  go_wp2_with fail
  refine (zlh s t x0 x1 x2 y0 y1 y2 _ HM.out l1 l2 E1.out E2.out).mono ?_
  exact zy1
 ·have HC : Hid (V.cmpV 3 s.data.toList t.data.toList = V.zbl s.data.toList t.data.toList) := zwg (by unfold V.cmpV; rw [if_neg (by decide), if_neg (by decide)])
  clear hs ht hm hn
  go_enter Tryz.func29, Tryz.ntmps29
  go_wp2_with fail
  refine (zqr s t _ HM.out l1 l2).mono ?_
  exact zy1
theorem zgn (n : Int) (s t : ByteArray) (w : World) (hm : zj w) (hs : s.size ≤ maxLen) (ht : t.size ≤ maxLen) :
  Calls Tryz.prog 50 #[.int .i64 n, .string s, .string t] w fun e w' =>
   e = .returned (.tuple #[.int .i64 (V.zw n s.data.toList t.data.toList).1, .int .i64 (V.zw n s.data.toList t.data.toList).2]) /\ Below w.heap.size w w' := by
 have HF : Hid (V.zw n s.data.toList t.data.toList = if !V.scheme n then (0, 14) else if V.valid n s.data.toList && V.valid n t.data.toList then (V.cmpV n s.data.toList t.data.toList, 0) else (0, 1)) := rfl
 have HM := zwg hm
 have HS := zwg hs
 have HT := zwg ht
 clear hm hs ht
 rcases h1 : V.scheme n with _ | _
 ·rw [h1] at HF
  have H1 := zwg h1
  clear h1
  have HR := zwg (show V.zw n s.data.toList t.data.toList = (0, 14) from HF.out)
  go_enter Tryz.func50, Tryz.ntmps50
  go_wp2_with fail
  refine (xf _ _).mono ?_
  rintro e w' ⟨rfl, rfl⟩
  simp only [H1.out]
  go_wp2
  go_ret2
  exact ⟨by rw [HR.out]; rfl, zwj _ _⟩
 ·rcases h2 : V.valid n s.data.toList with _ | _
  ·rw [h1, h2] at HF
   have H1 := zwg h1
   have H2 := zwg h2
   clear h1 h2
   have HR := zwg (show V.zw n s.data.toList t.data.toList = (0, 1) from HF.out)
   go_enter Tryz.func50, Tryz.ntmps50
   go_wp2_with fail
   refine (xf _ _).mono ?_
   rintro e w' ⟨rfl, rfl⟩
   simp only [H1.out]
   go_wp2_with fail
   refine (kr n s _ HM.out HS.out).mono ?_
   rintro e w1 ⟨rfl, hb⟩
   have HB := zwg hb
   clear hb
   simp only [H2.out]
   go_wp2
   go_ret2
   exact ⟨by rw [HR.out]; rfl, HB.out⟩
  ·rcases h3 : V.valid n t.data.toList with _ | _
   ·rw [h1, h2, h3] at HF
    have H1 := zwg h1
    have H2 := zwg h2
    have H3 := zwg h3
    clear h1 h2 h3
    have HR := zwg (show V.zw n s.data.toList t.data.toList = (0, 1) from HF.out)
    go_enter Tryz.func50, Tryz.ntmps50
    go_wp2_with fail
    refine (xf _ _).mono ?_
    rintro e w' ⟨rfl, rfl⟩
    simp only [H1.out]
    go_wp2_with fail
    refine (kr n s _ HM.out HS.out).mono ?_
    rintro e w1 ⟨rfl, hb⟩
    have HB := zwg hb
    clear hb
    simp only [H2.out]
    go_wp2_with fail
    refine (kr n t _ (HM.out.below HB.out) HT.out).mono ?_
    rintro e w2 ⟨rfl, hb⟩
    have HB2 := zwh HB hb
    clear hb
    simp only [H3.out]
    go_wp2
    go_ret2
    exact ⟨by rw [HR.out]; rfl, HB2.out⟩
   ·rw [h1, h2, h3] at HF
    have H1 := zwg h1
    have H2 := zwg h2
    have H3 := zwg h3
    clear h1 h2 h3
    have HR := zwg (show V.zw n s.data.toList t.data.toList = (V.cmpV n s.data.toList t.data.toList, 0) from HF.out)
    go_enter Tryz.func50, Tryz.ntmps50
    go_wp2_with fail
    refine (xf _ _).mono ?_
    rintro e w' ⟨rfl, rfl⟩
    simp only [H1.out]
    go_wp2_with fail
    refine (kr n s _ HM.out HS.out).mono ?_
    rintro e w1 ⟨rfl, hb⟩
    have HB := zwg hb
    clear hb
    simp only [H2.out]
    go_wp2_with fail
    refine (kr n t _ (HM.out.below HB.out) HT.out).mono ?_
    rintro e w2 ⟨rfl, hb⟩
    have HB2 := zwh HB hb
    clear hb
    simp only [H3.out]
    go_wp2_with fail
    refine (kz n s t _ (HM.out.below HB2.out) H1.out H2.out H3.out).mono ?_
    rintro e w3 ⟨rfl, hb⟩
    have HB3 := zwh HB2 hb
    clear hb
    go_wp2
    go_ret2
    exact ⟨by rw [HR.out]; rfl, HB3.out⟩
open Go.RowKit
theorem zsg (n : Int) (s t : ByteArray) (c k : Int) (h : V.zw n s.data.toList t.data.toList = (c, k)) (w : World) (hm : zj w) (hs : s.size ≤ maxLen) (ht : t.size ≤ maxLen) :
  Calls Tryz.prog 79 #[.int .i64 n, .string s, .string t] w fun e w' => e = .returned (.tuple #[.int .i64 c, .int .i64 k]) /\ Below w.heap.size w w' := by
 have := zia n s t w hm hs ht
 rw [h] at this
 exact this
open Go.RowKit
open Go.RowKit
theorem zy4 {P : Prop} (h : P := by
 have h1 : ¬ x < y := fun g => by rw [UInt8.lt_iff_toNat_lt] at h g; omega
 have h2 : (x == y) = false := by
  rw [zwk]; intro g; subst g; simp at h
 rw [e, h2]; simp [h1]) : P := h
theorem vm : ∀ a b : V.Bs, Op.bytesLess a b = decide (V.cb a b < 0)
 | [], [] => rfl
 | [], _ :: _ => rfl
 | _ :: _, [] => rfl
 | x :: a, y :: b => by
  unfold Op.bytesLess
  rcases V.ziq x y a b with ⟨h, e⟩ | ⟨h, e⟩ | ⟨h, e⟩
  ·rw [e]; simp [h]
  ·subst h
   have : ¬ x < x := by simp
   rw [e, ← vm a b]; simp [this]
  ·exact zy4
theorem zo2 (n : Int) (x y : V.Bs) (c : Int) (w : World) (hm : zj w) (hn : V.scheme n = true) (hx : V.valid n x = true) (hy : V.valid n y = true) (hc : V.cmpV n x y = c) :
  Calls Tryz.prog 29 #[.int .i64 n, .string ⟨x.toArray⟩, .string ⟨y.toArray⟩] w fun e w' => e = .returned (.int .i64 c) /\ Below w.heap.size w w' := by
 have h := kz n ⟨x.toArray⟩ ⟨y.toArray⟩ w hm hn (by simp only [zi4]; exact hx) (by simp only [zi4]; exact hy)
 simp only [zi4] at h
 rw [hc] at h
 exact h
end Go.Proofs.YtbikeahmldobkaaGreatDoor
