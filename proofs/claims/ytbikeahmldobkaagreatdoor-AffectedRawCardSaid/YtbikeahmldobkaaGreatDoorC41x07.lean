/-
  Lemmas for the law.
-/
import Derived.Test.YtbikeahmldobkaaGreatDoorC41x04
import Derived.Test.YtbikeahmldobkaaGreatDoorC41x06
import Derived.BigRegion
set_option linter.all false
set_option maxRecDepth 100000
set_option maxHeartbeats 3200000
namespace Go.Proofs.YtbikeahmldobkaaGreatDoor
open Go.RowKit
theorem qe (tmps : Array Value) (w : World) (b : Nat) (x : Bool) (v0 v1 v2 v3 : Value) (h4 : tmps.getD 4 undef = .pointer (some ⟨b, 0, none⟩)) (h5 : tmps.getD 5 undef = .bool x)
  (c0 : w.cell? ⟨b, 0, none⟩ = some v0) (c1 : w.cell? ⟨b, 1, none⟩ = some v1) (c2 : w.cell? ⟨b, 2, none⟩ = some v2) (c3 : w.cell? ⟨b, 3, none⟩ = some v3) :
  (results Tryz.f228 tmps).run Tryz.prog w = .ok (.tuple #[.agg #[v0, v1, v2, v3], .bool x]) w := by
 have h4' : tmps[4]?.getD undef = .pointer (some ⟨b, 0, none⟩) := by simpa using h4
 have h5' : tmps[5]?.getD undef = .bool x := by simpa using h5
 simp [results, Tryz.results228, go_sem, h4', h5', c0, c1, c2, c3]
theorem zsp {P : Prop} (h : P := by
 exact World.cell?_setCell_same _ _ _ ((o _ 1 2 _ (by omega)).trans ((o _ 0 2 _ (by omega)).trans c2))) : P := h
theorem set4 (w : World) (b : Nat) (u0 u1 u2 u3 v0 v1 v2 v3 : Value) (c0 : w.cell? ⟨b, 0, none⟩ = some u0) (c1 : w.cell? ⟨b, 1, none⟩ = some u1) (c2 : w.cell? ⟨b, 2, none⟩ = some u2) (c3 : w.cell? ⟨b, 3, none⟩ = some u3) :
  let W := (((w.setCell ⟨b, 0, none⟩ v0).setCell ⟨b, 1, none⟩ v1).setCell ⟨b, 2, none⟩ v2).setCell ⟨b, 3, none⟩ v3
  W.cell? ⟨b, 0, none⟩ = some v0 /\ W.cell? ⟨b, 1, none⟩ = some v1 /\ W.cell? ⟨b, 2, none⟩ = some v2 /\ W.cell? ⟨b, 3, none⟩ = some v3 := by
 have o : ∀ (W : World) (i j : Nat) (v : Value), i ≠ j -> (W.setCell ⟨b, i, none⟩ v).cell? ⟨b, j, none⟩ = W.cell? ⟨b, j, none⟩ := fun W i j v h => World.cell?_setCell_other _ _ _ _ (by simp )
 refine ⟨?_, ?_, ?_, ?_⟩
 ·rw [o _ 3 0 _ (by omega), o _ 2 0 _ (by omega), o _ 1 0 _ (by omega)]
  exact World.cell?_setCell_same _ _ _ c0
 ·rw [o _ 3 1 _ (by omega), o _ 2 1 _ (by omega)]
  exact World.cell?_setCell_same _ _ _ ((o _ 0 1 _ (by omega)).trans c1)
 ·rw [o _ 3 2 _ (by omega)]
  exact zsp
 ·exact World.cell?_setCell_same _ _ _ ((o _ 2 3 _ (by omega)).trans ((o _ 1 3 _ (by omega)).trans ((o _ 0 3 _ (by omega)).trans c3)))
theorem ql {w0 w : World} (b : Nat) (h : Below w0.heap.size w0 w) (hb : w0.heap.size ≤ b) (v0 v1 v2 v3 : Value) :
  Below w0.heap.size w0 ((((w.setCell ⟨b, 0, none⟩ v0).setCell ⟨b, 1, none⟩ v1).setCell ⟨b, 2, none⟩ v2).setCell ⟨b, 3, none⟩ v3) :=
 (((h.setCell (p := ⟨b, 0, none⟩) hb _).setCell (p := ⟨b, 1, none⟩) hb _).setCell (p := ⟨b, 2, none⟩) hb _).setCell (p := ⟨b, 3, none⟩) hb _
theorem qk {n : Nat} {cs : Array Value} {W W' : World} (hb : Below W.heap.size W W') (hn : n < W.heap.size) (hc : ∀ i, W.cell? ⟨n, i, none⟩ = cs[i]?) : ∀ i, W'.cell? ⟨n, i, none⟩ = cs[i]? :=
 fun i => (hb.cell (p := ⟨n, i, none⟩) hn).trans (hc i)
theorem qb {n : Nat} {W W' : World} (hb : Below W.heap.size W W') (hn : n < W.heap.size) (hc : ∀ i, W.frozen? ⟨n, i, none⟩ = false) : ∀ i, W'.frozen? ⟨n, i, none⟩ = false :=
 fun i => (hb.frozen (p := ⟨n, i, none⟩) hn).trans (hc i)
def zei (r : Option (List V.Bs × List V.Bs)) (w : World) (e : Ending) (w' : World) : Prop :=
 Below w.heap.size w w' /\ match r with
 | none => e = .returned (.tuple #[.agg #[.string ⟨#[]⟩, .string ⟨#[]⟩, .string ⟨#[]⟩, .slice none 0 0], .bool false])
 | some (l, pre) => ∃ pv, Strs w' pv pre /\ e = .returned (.tuple #[.agg #[.string ⟨(l.getD 0 []).toArray⟩, .string ⟨(l.getD 1 []).toArray⟩, .string ⟨(l.getD 2 []).toArray⟩, pv], .bool true])
theorem zph {P : Prop} (h : P := by
 go_wp2_with fail
 refine (jm ⟨pr.toArray⟩ 46 _ (hmW.below (((zpd _ _).alloc (zpc _) _).drew)) (by show pr.length < _; omega)).mono ?_
 rintro e w6 ⟨rfl, hw6⟩
 simp only  at hw6 ⊢
 have HN' := HN.out
 generalize hPR : V.zo 46 pr = PR at *
 have HSP := zpa (hw6 ▸ Strs.split (w5.alloc (.cells #[.string ⟨x0.toArray⟩, .string ⟨x1.toArray⟩, .string ⟨x2.toArray⟩, .slice none 0 0] 260)).drew PR 9 : Strs w6 (.slice (some ⟨(w5.alloc (.cells #[.string ⟨x0.toArray⟩, .string ⟨x1.toArray⟩, .string ⟨x2.toArray⟩, .slice none 0 0] 260)).drew.heap.size, 0, none⟩) PR.length PR.length) PR)
 have hbA : Below w5.heap.size w5 (w5.alloc (.cells #[.string ⟨x0.toArray⟩, .string ⟨x1.toArray⟩, .string ⟨x2.toArray⟩, .slice none 0 0] 260)).drew := ((zpd _ _).alloc (zpc _) _).drew
 have hbC : Below (w5.alloc (.cells #[.string ⟨x0.toArray⟩, .string ⟨x1.toArray⟩, .string ⟨x2.toArray⟩, .slice none 0 0] 260)).drew.heap.size (w5.alloc (.cells #[.string ⟨x0.toArray⟩, .string ⟨x1.toArray⟩, .string ⟨x2.toArray⟩, .slice none 0 0] 260)).drew w6 := by
  rw [hw6]; exact (zpd _ _).alloc (zpc _) _
 have hc6 : ∀ i, w6.cell? ⟨w5.heap.size, i, none⟩ = #[Value.string ⟨x0.toArray⟩, .string ⟨x1.toArray⟩, .string ⟨x2.toArray⟩, .slice none 0 0][i]? :=
  qk hbC (by simp) (fun i => by rw [World.cell?_drew, zj, if_pos rfl])
 have hf6 : ∀ i, w6.frozen? ⟨w5.heap.size, i, none⟩ = false :=
  qb hbC (by simp) (fun i => by show (World.alloc _ _).frozen? _ = false; rw [qj, if_pos rfl])
 have hbD : Below w5.heap.size w5 w6 := hbA.trans (hbC.mono hbA.size)
 have hzD : w5.heap.size < w6.heap.size := Nat.lt_of_lt_of_le (by simp) hbC.size
 have s0 := hc6 0
 have s1 := hc6 1
 have s2 := hc6 2
 have s3 := hc6 3
 simp at s0 s1 s2 s3
 have k0 := (hbD.cell (p := ⟨w.heap.size + 1, 0, none⟩) hzW2).trans d0
 have k1 := (hbD.cell (p := ⟨w.heap.size + 1, 1, none⟩) hzW2).trans d1
 have k2 := (hbD.cell (p := ⟨w.heap.size + 1, 2, none⟩) hzW2).trans d2
 have k3 := (hbD.cell (p := ⟨w.heap.size + 1, 3, none⟩) hzW2).trans d3
 have hf7 := qb hbD hzW2 hfW
 have hz7 : w.heap.size + 1 < w6.heap.size := by omega
 have hbE := zpb hbW hbD
 have HN2 := zpa HN'
 clear HN' HN hw6 hbA hbC hc6 hbD hPR
 go_wp2
 have o := fun (j : Nat) => World.cell?_setCell_other w6 (⟨w5.heap.size, 3, none⟩ : Addr) ⟨w.heap.size + 1, j, none⟩ (.slice (some ⟨w5.heap.size + 1, 0, none⟩) PR.length PR.length) (by first | (simp; done) | (simp; omega))
 obtain ⟨q0, q1, q2, q3⟩ := set4 _ (w.heap.size + 1) _ _ _ _ (.string ⟨x0.toArray⟩) (.string ⟨x1.toArray⟩) (.string ⟨x2.toArray⟩) (.slice (some ⟨w5.heap.size + 1, 0, none⟩) PR.length PR.length) ((o 0).trans k0) ((o 1).trans k1) ((o 2).trans k2) ((o 3).trans k3)
 exact bodyPost_ret (qe _ _ (w.heap.size + 1) true _ _ _ _ rfl rfl q0 q1 q2 q3) rfl (by
   rw [HN2.out]
   refine ⟨ql (w.heap.size + 1) (hbE.out.setCell (p := ⟨w5.heap.size, 3, none⟩) (by show w.heap.size ≤ w5.heap.size; omega) _) (by omega) _ _ _ _, .slice (some ⟨w5.heap.size + 1, 0, none⟩) PR.length PR.length, ?_, ?_⟩
   · have h1 : w5.heap.size ≠ w5.heap.size + 1 := by omega
     have h2 : w.heap.size + 1 ≠ w5.heap.size + 1 := by omega
     have hS : Strs w6 (.slice (some ⟨w5.heap.size + 1, 0, none⟩) PR.length PR.length) PR := by simpa using HSP.out
     exact ((((hS.setCell h1 _).setCell h2 _).setCell h2 _).setCell h2 _).setCell h2 _
   · rw [HX0.out, HX1.out, HX2.out])) : P := h
theorem zpj {P : Prop} (h : P := by
 obtain ⟨q0, q1, q2, q3⟩ := set4 _ (w.heap.size + 1) _ _ _ _ (.string ⟨#[]⟩) (.string ⟨#[]⟩) (.string ⟨#[]⟩) (.slice none 0 0) d0 d1 d2 d3
 exact bodyPost_ret (qe _ _ (w.heap.size + 1) false _ _ _ _ rfl rfl q0 q1 q2 q3) rfl (by
   rw [HN.out]; exact ⟨ql (w.heap.size + 1) hbW.out (by omega) _ _ _ _, rfl⟩)) : P := h
theorem zpt {P : Prop} (h : P := by
 obtain ⟨a, cap, e, hc⟩ := HSW.out
 obtain ⟨b, off, ea, _, hcell⟩ := hc j (by omega)
 cases e; cases ea
 rw [List.getD_eq_getElem?_getD, List.getElem?_eq_getElem (by omega : j < L.length)]
 rw [Nat.zero_add] at hcell
 exact hcell) : P := h
theorem zpw {P : Prop} (h : P := by
 go_round
 case rel => exact ⟨k + 1, by omega, by go_num, fun j hj => by
   by_cases e : j = k
   · subst e; rw [HX.out]; exact HNB.out
   · exact HZ.out j (by omega)⟩
 case measure => simp [intOf]; omega) : P := h
theorem zpz {P : Prop} (h : P := by
 exact bodyPost_ret (qe _ _ (w.heap.size + 1) true _ _ _ _ rfl rfl (by rw [World.cell?_drew, zj, if_neg (by simp; omega)]; exact q0) (by rw [World.cell?_drew, zj, if_neg (by simp; omega)]; exact q1) (by rw [World.cell?_drew, zj, if_neg (by simp; omega)]; exact q2) (by rw [World.cell?_drew, zj, if_neg (by simp; omega)]; exact q3)) rfl (by
   rw [HN.out]
   refine ⟨((ql (w.heap.size + 1) hbW.out (by omega) _ _ _ _).alloc (by simp; omega) _).drew, .slice none 0 0, Strs.nil _, ?_⟩
   rw [HX0.out, HX1.out, HX2.out])) : P := h
theorem yq (s : ByteArray) (w : World) (hm : zm w) (hs : s.size ≤ 1000) :
  Calls Tryz.prog 228 #[.agg #[], .string s] w (zei (V.zl s.data.toList) w) := by
 obtain ⟨v1, bu, B, hx1⟩ : ∃ a b c, V.cut1 43 s.data.toList = (a, b, c) := ⟨_, _, _, rfl⟩
 obtain ⟨v2, pr, E, hx2⟩ : ∃ a b c, V.cut1 45 v1 = (a, b, c) := ⟨_, _, _, rfl⟩
 obtain ⟨L, hL⟩ : ∃ L, V.zo 46 v2 = L := ⟨_, rfl⟩
 have HP : Hid (V.zl s.data.toList = if (B && !V.identifiers bu false) || (E && !V.identifiers pr true) || L.length != 3 then none else if L.all (fun x => V.numb x true) then some (L, if E then V.zo 46 pr else []) else none) := zpa (by
   unfold V.zl
   rw [hx1]
   simp only
   rw [hx2]
   simp only
   rw [hL])
 have hl1 : v1.length ≤ s.size /\ bu.length ≤ s.size := by
  have := km 43 s.data.toList
  rw [hx1, zi] at this
  exact this
 have hl2 : v2.length ≤ v1.length /\ pr.length ≤ v1.length := by
  have := km 45 v1
  rw [hx2] at this
  exact this
 have hl3 : L.length ≤ v2.length + 1 := by rw [← hL]; exact qy 46 v2
 have hl4 : Hid (∀ x ∈ L, x.length ≤ v2.length) := zpa (fun x hx => ji 46 v2 x (by rw [hL]; exact hx))
 obtain ⟨hl1, hl1'⟩ := hl1
 obtain ⟨hl2, hl2'⟩ := hl2
 have HX1 := zpa hx1
 have HX2 := zpa hx2
 have HL := zpa hL
 clear hx1 hx2 hL
 obtain ⟨W2, hW2⟩ : ∃ W2, W2 = (w.alloc (.cells #[] 203)).alloc (.cells #[.string ⟨#[]⟩, .string ⟨#[]⟩, .string ⟨#[]⟩, .slice none 0 0] 260) := ⟨_, rfl⟩
 obtain ⟨hb2, hc2, hf2, hz2⟩ := zhx w #[] #[.string ⟨#[]⟩, .string ⟨#[]⟩, .string ⟨#[]⟩, .slice none 0 0] 203 260
 rw [← hW2] at hb2 hc2 hf2 hz2
 have hm2 := hm.below hb2
 have HW := zpa hW2
 have HC2 := zpa hc2
 have HF2 := zpa hf2
 have HZ2 := zpa hz2
 clear hW2 hc2 hf2 hz2
 go_enter Tryz.func228, Tryz.ntmps228
 go_wp2_with fail
 rw [← HW.out]
 refine (vz s 43 _ hm2 (by omega)).mono ?_
 rintro e w1 ⟨rfl, hb1⟩
 simp only [HX1.out]
 have hm1 := hm2.below hb1
 go_wp2_with fail
 refine (vz ⟨v1.toArray⟩ 45 _ hm1 (by show v1.length < _; omega)).mono ?_
 rintro e w3 ⟨rfl, hb3⟩
 simp only [HX2.out]
 have hm3 := hm1.below hb3
 go_wp2_with fail
 refine (jm ⟨v2.toArray⟩ 46 _ hm3 (by show v2.length < _; omega)).mono ?_
 rintro e w4 ⟨rfl, hw4⟩
 simp only [HL.out] at hw4 ⊢
 have hstr := Strs.split w3 L 9
 rw [← hw4] at hstr
 have hb4 : Below w3.heap.size w3 w4 := by rw [hw4]; exact (zpd _ _).alloc (zpc _) _
 have HS := zpa hstr
 have hw4' := hw4
 clear hstr hw4
 have hm4 := hm3.below hb4
 have hb24 : Below W2.heap.size W2 w4 := hb1.trans ((hb3.mono hb1.size).trans (hb4.mono (Nat.le_trans hb1.size hb3.size)))
 have hn2 : w.heap.size + 1 < W2.heap.size := by rw [HZ2.out]; omega
 have hz34 : w3.heap.size < w4.heap.size := by rw [hw4']; simp
 have hz24 : w.heap.size + 1 < w4.heap.size := Nat.lt_of_lt_of_le hn2 hb24.size
 clear hw4'
 have HB1 := zpa hb1
 have HB3 := zpa hb3
 have HB4 := zpa hb4
 clear hb1 hb3 hb4
 cases B with
 | false =>
  have hbr : Below w4.heap.size w4 w4 := zpd _ _
  cases E with
  | false =>
   have hb2W : Below W2.heap.size W2 w4 := hb24.trans (hbr.mono hb24.size)
   have hmW : zm w4 := hm4.below hbr
   have hfW := qb hb2W hn2 HF2.out
   have hcW := qk hb2W hn2 HC2.out
   have d0 := hcW 0
   have d1 := hcW 1
   have d2 := hcW 2
   have d3 := hcW 3
   simp at d0 d1 d2 d3
   have HSW := zpa (HS.out.below hbr)
   have hzW : w3.heap.size < w4.heap.size := Nat.lt_of_lt_of_le hz34 hbr.size
   have hzW2 : w.heap.size + 1 < w4.heap.size := Nat.lt_of_lt_of_le hz24 hbr.size
   have hbW : Hid (Below w.heap.size w w4) := zpa (hb2.trans (hb2W.mono hb2.size))
   have HBW := zpa hbr
   clear hcW hb2W
   by_cases h3 : L.length = 3
   ·have hL3 := h3
    have hcs : ∀ j, j < 3 -> w4.cell? ⟨w3.heap.size, j, none⟩ = some (.string ⟨(L.getD j []).toArray⟩) := fun j hj => by
     exact zpt
    have HCS := zpa hcs
    have hln : Hid (∀ j, (L.getD j []).length ≤ v2.length) := zpa (fun j => by
      rcases Nat.lt_or_ge j L.length with h | h
      · rw [List.getD_eq_getElem?_getD, List.getElem?_eq_getElem h]; exact hl4.out _ (List.getElem_mem h)
      · rw [List.getD_eq_getElem?_getD, List.getElem?_eq_none h]; simp)
    clear hcs
    have HL3 := zpa hL3
    have hle : L.length ≤ 3 := by omega
    have hge : 3 ≤ L.length := by omega
    have hn3 : ((L.length : Int) != 3) = false := by rw [bne_eq_false_iff_eq]; omega
    clear hL3 h3
    go_wp2
    go_loop [50] (fun i => ∃ k : Nat, k ≤ 3 /\ i = .int .i64 k /\ ∀ j, j < k -> V.numb (L.getD j []) true = true) (fun i => 3 - (intOf i).toNat)
    case atStart => exact ⟨0, by omega, rfl, fun j hj => by omega⟩
    case round =>
     obtain ⟨k, hk, rfl, hz⟩ := hrel
     have HZ := zpa hz
     clear hz
     by_cases hlt : k < 3
     ·have hcell := HCS.out k hlt
      have hkl := hln.out k
      rcases hnb : V.numb (L.getD k []) true with _ | _
      all_goals
       have HNB := zpa hnb
       clear hnb
       generalize hx : L.getD k [] = x at *
       have HX := zpa hx
       clear hx
       have hlt2 : k < L.length := by omega
       go_wp2_with fail
       refine (ks ⟨x.toArray⟩ true _ (by show x.length ≤ _; unfold maxLen; omega)).mono ?_
       rintro e w' ⟨rfl, rfl⟩
       simp only [HNB.out]
       go_wp2
      ·have HN : Hid (V.zl s.data.toList = none) := zpa (by
         rw [HP.out, if_neg (by simp [HL3.out]), if_neg]
         intro e
         rw [List.all_eq_true] at e
         have h1 := e (L.getD k []) (by rw [List.getD_eq_getElem?_getD, List.getElem?_eq_getElem hlt2]; exact List.getElem_mem hlt2)
         rw [HX.out] at h1
         simp [HNB.out] at h1)
       exact zpj
      ·exact zpw
     ·have HALL : Hid (L.all (fun x => V.numb x true) = true) := zpa (by
        rw [List.all_eq_true]
        intro x hx
        obtain ⟨j, hj, e⟩ := List.getElem_of_mem hx
        have := HZ.out j (by omega)
        rw [List.getD_eq_getElem?_getD, List.getElem?_eq_getElem hj] at this
        rw [← e]; exact this)
      have e0 := HCS.out 0 (by omega)
      have e1 := HCS.out 1 (by omega)
      have e2 := HCS.out 2 (by omega)
      generalize hx0 : L.getD 0 [] = x0 at *
      generalize hx1 : L.getD 1 [] = x1 at *
      generalize hx2 : L.getD 2 [] = x2 at *
      have HX0 := zpa hx0
      have HX1 := zpa hx1
      have HX2 := zpa hx2
      clear hx0 hx1 hx2
      have g0 : 0 < L.length := by omega
      have g1 : 1 < L.length := by omega
      have g2 : 2 < L.length := by omega
      go_wp2
      go_region
      have HN : Hid (V.zl s.data.toList = some (L, [])) := zpa (by rw [HP.out, if_neg (by simp [HL3.out]), if_pos HALL.out]; rfl)
      go_wp2
      obtain ⟨q0, q1, q2, q3⟩ := set4 w4 (w.heap.size + 1) _ _ _ _ (.string ⟨x0.toArray⟩) (.string ⟨x1.toArray⟩) (.string ⟨x2.toArray⟩) (.slice none 0 0) d0 d1 d2 d3
      exact zpz
   ·have hn3 : ((L.length : Int) != 3) = true := by rw [bne_iff_ne]; omega
    have HN : Hid (V.zl s.data.toList = none) := zpa (by rw [HP.out]; simp [h3])
    clear h3
    go_wp2
    exact zpj
  | true =>
   have hmX : zm w4 := hm4.below hbr
   rcases hi2 : V.identifiers pr true with _ | _
   all_goals
    have HI2 := zpa hi2
    clear hi2
    go_wp2_with fail
    refine (yc ⟨pr.toArray⟩ true _ (by show pr.length ≤ _; unfold maxLen; omega)).mono ?_
    rintro e w5 ⟨rfl, hb5⟩
    simp only [HI2.out]
    have hb45 : Below w4.heap.size w4 w5 := Below.trans hbr (hb5.mono (Below.size hbr))
    clear hb5
   ·have hb2W : Below W2.heap.size W2 w5 := hb24.trans (hb45.mono hb24.size)
    have hmW : zm w5 := hm4.below hb45
    have hfW := qb hb2W hn2 HF2.out
    have hcW := qk hb2W hn2 HC2.out
    have d0 := hcW 0
    have d1 := hcW 1
    have d2 := hcW 2
    have d3 := hcW 3
    simp at d0 d1 d2 d3
    have HSW := zpa (HS.out.below hb45)
    have hzW : w3.heap.size < w5.heap.size := Nat.lt_of_lt_of_le hz34 hb45.size
    have hzW2 : w.heap.size + 1 < w5.heap.size := Nat.lt_of_lt_of_le hz24 hb45.size
    have hbW : Hid (Below w.heap.size w w5) := zpa (hb2.trans (hb2W.mono hb2.size))
    have HBW := zpa hb45
    clear hcW hb2W
    have HN : Hid (V.zl s.data.toList = none) := zpa (by rw [HP.out]; simp [HI2.out])
    go_wp2
    exact zpj
   ·have hb2W : Below W2.heap.size W2 w5 := hb24.trans (hb45.mono hb24.size)
    have hmW : zm w5 := hm4.below hb45
    have hfW := qb hb2W hn2 HF2.out
    have hcW := qk hb2W hn2 HC2.out
    have d0 := hcW 0
    have d1 := hcW 1
    have d2 := hcW 2
    have d3 := hcW 3
    simp at d0 d1 d2 d3
    have HSW := zpa (HS.out.below hb45)
    have hzW : w3.heap.size < w5.heap.size := Nat.lt_of_lt_of_le hz34 hb45.size
    have hzW2 : w.heap.size + 1 < w5.heap.size := Nat.lt_of_lt_of_le hz24 hb45.size
    have hbW : Hid (Below w.heap.size w w5) := zpa (hb2.trans (hb2W.mono hb2.size))
    have HBW := zpa hb45
    clear hcW hb2W
    by_cases h3 : L.length = 3
    ·have hL3 := h3
     have hcs : ∀ j, j < 3 -> w5.cell? ⟨w3.heap.size, j, none⟩ = some (.string ⟨(L.getD j []).toArray⟩) := fun j hj => by
      exact zpt
     have HCS := zpa hcs
     have hln : Hid (∀ j, (L.getD j []).length ≤ v2.length) := zpa (fun j => by
       rcases Nat.lt_or_ge j L.length with h | h
       · rw [List.getD_eq_getElem?_getD, List.getElem?_eq_getElem h]; exact hl4.out _ (List.getElem_mem h)
       · rw [List.getD_eq_getElem?_getD, List.getElem?_eq_none h]; simp)
     clear hcs
     have HL3 := zpa hL3
     have hle : L.length ≤ 3 := by omega
     have hge : 3 ≤ L.length := by omega
     have hn3 : ((L.length : Int) != 3) = false := by rw [bne_eq_false_iff_eq]; omega
     clear hL3 h3
     go_wp2
     go_loop [50] (fun i => ∃ k : Nat, k ≤ 3 /\ i = .int .i64 k /\ ∀ j, j < k -> V.numb (L.getD j []) true = true) (fun i => 3 - (intOf i).toNat)
     case atStart => exact ⟨0, by omega, rfl, fun j hj => by omega⟩
     case round =>
      obtain ⟨k, hk, rfl, hz⟩ := hrel
      have HZ := zpa hz
      clear hz
      by_cases hlt : k < 3
      ·have hcell := HCS.out k hlt
       have hkl := hln.out k
       rcases hnb : V.numb (L.getD k []) true with _ | _
       all_goals
        have HNB := zpa hnb
        clear hnb
        generalize hx : L.getD k [] = x at *
        have HX := zpa hx
        clear hx
        have hlt2 : k < L.length := by omega
        go_wp2_with fail
        refine (ks ⟨x.toArray⟩ true _ (by show x.length ≤ _; unfold maxLen; omega)).mono ?_
        rintro e w' ⟨rfl, rfl⟩
        simp only [HNB.out]
        go_wp2
       ·have HN : Hid (V.zl s.data.toList = none) := zpa (by
          rw [HP.out, if_neg (by simp [HL3.out, HI2.out]), if_neg]
          intro e
          rw [List.all_eq_true] at e
          have h1 := e (L.getD k []) (by rw [List.getD_eq_getElem?_getD, List.getElem?_eq_getElem hlt2]; exact List.getElem_mem hlt2)
          rw [HX.out] at h1
          simp [HNB.out] at h1)
        exact zpj
       ·exact zpw
      ·have HALL : Hid (L.all (fun x => V.numb x true) = true) := zpa (by
         rw [List.all_eq_true]
         intro x hx
         obtain ⟨j, hj, e⟩ := List.getElem_of_mem hx
         have := HZ.out j (by omega)
         rw [List.getD_eq_getElem?_getD, List.getElem?_eq_getElem hj] at this
         rw [← e]; exact this)
       have e0 := HCS.out 0 (by omega)
       have e1 := HCS.out 1 (by omega)
       have e2 := HCS.out 2 (by omega)
       generalize hx0 : L.getD 0 [] = x0 at *
       generalize hx1 : L.getD 1 [] = x1 at *
       generalize hx2 : L.getD 2 [] = x2 at *
       have HX0 := zpa hx0
       have HX1 := zpa hx1
       have HX2 := zpa hx2
       clear hx0 hx1 hx2
       have g0 : 0 < L.length := by omega
       have g1 : 1 < L.length := by omega
       have g2 : 2 < L.length := by omega
       go_wp2
       go_region
       have HN : Hid (V.zl s.data.toList = some (L, V.zo 46 pr)) := zpa (by rw [HP.out, if_neg (by simp [HL3.out, HI2.out]), if_pos HALL.out]; rfl)
       exact zph
    ·have hn3 : ((L.length : Int) != 3) = true := by rw [bne_iff_ne]; omega
     have HN : Hid (V.zl s.data.toList = none) := zpa (by rw [HP.out]; simp [h3, HI2.out])
     clear h3
     go_wp2
     exact zpj
 | true =>
  rcases hi1 : V.identifiers bu false with _ | _
  all_goals
   have HI1 := zpa hi1
   clear hi1
   go_wp2_with fail
   refine (yc ⟨bu.toArray⟩ false _ (by show bu.length ≤ _; unfold maxLen; omega)).mono ?_
   rintro e wI ⟨rfl, hbI⟩
   simp only [HI1.out]
  ·have hb2W : Below W2.heap.size W2 wI := hb24.trans (hbI.mono hb24.size)
   have hmW : zm wI := hm4.below hbI
   have hfW := qb hb2W hn2 HF2.out
   have hcW := qk hb2W hn2 HC2.out
   have d0 := hcW 0
   have d1 := hcW 1
   have d2 := hcW 2
   have d3 := hcW 3
   simp at d0 d1 d2 d3
   have HSW := zpa (HS.out.below hbI)
   have hzW : w3.heap.size < wI.heap.size := Nat.lt_of_lt_of_le hz34 hbI.size
   have hzW2 : w.heap.size + 1 < wI.heap.size := Nat.lt_of_lt_of_le hz24 hbI.size
   have hbW : Hid (Below w.heap.size w wI) := zpa (hb2.trans (hb2W.mono hb2.size))
   have HBW := zpa hbI
   clear hcW hb2W
   have HN : Hid (V.zl s.data.toList = none) := zpa (by rw [HP.out]; simp [HI1.out])
   go_wp2
   exact zpj
  ·cases E with
   | false =>
    have hb2W : Below W2.heap.size W2 wI := hb24.trans (hbI.mono hb24.size)
    have hmW : zm wI := hm4.below hbI
    have hfW := qb hb2W hn2 HF2.out
    have hcW := qk hb2W hn2 HC2.out
    have d0 := hcW 0
    have d1 := hcW 1
    have d2 := hcW 2
    have d3 := hcW 3
    simp at d0 d1 d2 d3
    have HSW := zpa (HS.out.below hbI)
    have hzW : w3.heap.size < wI.heap.size := Nat.lt_of_lt_of_le hz34 hbI.size
    have hzW2 : w.heap.size + 1 < wI.heap.size := Nat.lt_of_lt_of_le hz24 hbI.size
    have hbW : Hid (Below w.heap.size w wI) := zpa (hb2.trans (hb2W.mono hb2.size))
    have HBW := zpa hbI
    clear hcW hb2W
    by_cases h3 : L.length = 3
    ·have hL3 := h3
     have hcs : ∀ j, j < 3 -> wI.cell? ⟨w3.heap.size, j, none⟩ = some (.string ⟨(L.getD j []).toArray⟩) := fun j hj => by
      exact zpt
     have HCS := zpa hcs
     have hln : Hid (∀ j, (L.getD j []).length ≤ v2.length) := zpa (fun j => by
       rcases Nat.lt_or_ge j L.length with h | h
       · rw [List.getD_eq_getElem?_getD, List.getElem?_eq_getElem h]; exact hl4.out _ (List.getElem_mem h)
       · rw [List.getD_eq_getElem?_getD, List.getElem?_eq_none h]; simp)
     clear hcs
     have HL3 := zpa hL3
     have hle : L.length ≤ 3 := by omega
     have hge : 3 ≤ L.length := by omega
     have hn3 : ((L.length : Int) != 3) = false := by rw [bne_eq_false_iff_eq]; omega
     clear hL3 h3
     go_wp2
     go_loop [50] (fun i => ∃ k : Nat, k ≤ 3 /\ i = .int .i64 k /\ ∀ j, j < k -> V.numb (L.getD j []) true = true) (fun i => 3 - (intOf i).toNat)
     case atStart => exact ⟨0, by omega, rfl, fun j hj => by omega⟩
     case round =>
      obtain ⟨k, hk, rfl, hz⟩ := hrel
      have HZ := zpa hz
      clear hz
      by_cases hlt : k < 3
      ·have hcell := HCS.out k hlt
       have hkl := hln.out k
       rcases hnb : V.numb (L.getD k []) true with _ | _
       all_goals
        have HNB := zpa hnb
        clear hnb
        generalize hx : L.getD k [] = x at *
        have HX := zpa hx
        clear hx
        have hlt2 : k < L.length := by omega
        go_wp2_with fail
        refine (ks ⟨x.toArray⟩ true _ (by show x.length ≤ _; unfold maxLen; omega)).mono ?_
        rintro e w' ⟨rfl, rfl⟩
        simp only [HNB.out]
        go_wp2
       ·have HN : Hid (V.zl s.data.toList = none) := zpa (by
          rw [HP.out, if_neg (by simp [HL3.out, HI1.out]), if_neg]
          intro e
          rw [List.all_eq_true] at e
          have h1 := e (L.getD k []) (by rw [List.getD_eq_getElem?_getD, List.getElem?_eq_getElem hlt2]; exact List.getElem_mem hlt2)
          rw [HX.out] at h1
          simp [HNB.out] at h1)
        exact zpj
       ·exact zpw
      ·have HALL : Hid (L.all (fun x => V.numb x true) = true) := zpa (by
         rw [List.all_eq_true]
         intro x hx
         obtain ⟨j, hj, e⟩ := List.getElem_of_mem hx
         have := HZ.out j (by omega)
         rw [List.getD_eq_getElem?_getD, List.getElem?_eq_getElem hj] at this
         rw [← e]; exact this)
       have e0 := HCS.out 0 (by omega)
       have e1 := HCS.out 1 (by omega)
       have e2 := HCS.out 2 (by omega)
       generalize hx0 : L.getD 0 [] = x0 at *
       generalize hx1 : L.getD 1 [] = x1 at *
       generalize hx2 : L.getD 2 [] = x2 at *
       have HX0 := zpa hx0
       have HX1 := zpa hx1
       have HX2 := zpa hx2
       clear hx0 hx1 hx2
       have g0 : 0 < L.length := by omega
       have g1 : 1 < L.length := by omega
       have g2 : 2 < L.length := by omega
       go_wp2
       go_region
       have HN : Hid (V.zl s.data.toList = some (L, [])) := zpa (by rw [HP.out, if_neg (by simp [HL3.out, HI1.out]), if_pos HALL.out]; rfl)
       go_wp2
       obtain ⟨q0, q1, q2, q3⟩ := set4 wI (w.heap.size + 1) _ _ _ _ (.string ⟨x0.toArray⟩) (.string ⟨x1.toArray⟩) (.string ⟨x2.toArray⟩) (.slice none 0 0) d0 d1 d2 d3
       exact zpz
    ·have hn3 : ((L.length : Int) != 3) = true := by rw [bne_iff_ne]; omega
     have HN : Hid (V.zl s.data.toList = none) := zpa (by rw [HP.out]; simp [h3, HI1.out])
     clear h3
     go_wp2
     exact zpj
   | true =>
    have hmX : zm wI := hm4.below hbI
    rcases hi2 : V.identifiers pr true with _ | _
    all_goals
     have HI2 := zpa hi2
     clear hi2
     go_wp2_with fail
     refine (yc ⟨pr.toArray⟩ true _ (by show pr.length ≤ _; unfold maxLen; omega)).mono ?_
     rintro e w5 ⟨rfl, hb5⟩
     simp only [HI2.out]
     have hb45 : Below w4.heap.size w4 w5 := Below.trans hbI (hb5.mono (Below.size hbI))
     clear hb5
    ·have hb2W : Below W2.heap.size W2 w5 := hb24.trans (hb45.mono hb24.size)
     have hmW : zm w5 := hm4.below hb45
     have hfW := qb hb2W hn2 HF2.out
     have hcW := qk hb2W hn2 HC2.out
     have d0 := hcW 0
     have d1 := hcW 1
     have d2 := hcW 2
     have d3 := hcW 3
     simp at d0 d1 d2 d3
     have HSW := zpa (HS.out.below hb45)
     have hzW : w3.heap.size < w5.heap.size := Nat.lt_of_lt_of_le hz34 hb45.size
     have hzW2 : w.heap.size + 1 < w5.heap.size := Nat.lt_of_lt_of_le hz24 hb45.size
     have hbW : Hid (Below w.heap.size w w5) := zpa (hb2.trans (hb2W.mono hb2.size))
     have HBW := zpa hb45
     clear hcW hb2W
     have HN : Hid (V.zl s.data.toList = none) := zpa (by rw [HP.out]; simp [HI1.out, HI2.out])
     go_wp2
     exact zpj
    ·have hb2W : Below W2.heap.size W2 w5 := hb24.trans (hb45.mono hb24.size)
     have hmW : zm w5 := hm4.below hb45
     have hfW := qb hb2W hn2 HF2.out
     have hcW := qk hb2W hn2 HC2.out
     have d0 := hcW 0
     have d1 := hcW 1
     have d2 := hcW 2
     have d3 := hcW 3
     simp at d0 d1 d2 d3
     have HSW := zpa (HS.out.below hb45)
     have hzW : w3.heap.size < w5.heap.size := Nat.lt_of_lt_of_le hz34 hb45.size
     have hzW2 : w.heap.size + 1 < w5.heap.size := Nat.lt_of_lt_of_le hz24 hb45.size
     have hbW : Hid (Below w.heap.size w w5) := zpa (hb2.trans (hb2W.mono hb2.size))
     have HBW := zpa hb45
     clear hcW hb2W
     by_cases h3 : L.length = 3
     ·have hL3 := h3
      have hcs : ∀ j, j < 3 -> w5.cell? ⟨w3.heap.size, j, none⟩ = some (.string ⟨(L.getD j []).toArray⟩) := fun j hj => by
       exact zpt
      have HCS := zpa hcs
      have hln : Hid (∀ j, (L.getD j []).length ≤ v2.length) := zpa (fun j => by
        rcases Nat.lt_or_ge j L.length with h | h
        · rw [List.getD_eq_getElem?_getD, List.getElem?_eq_getElem h]; exact hl4.out _ (List.getElem_mem h)
        · rw [List.getD_eq_getElem?_getD, List.getElem?_eq_none h]; simp)
      clear hcs
      have HL3 := zpa hL3
      have hle : L.length ≤ 3 := by omega
      have hge : 3 ≤ L.length := by omega
      have hn3 : ((L.length : Int) != 3) = false := by rw [bne_eq_false_iff_eq]; omega
      clear hL3 h3
      go_wp2
      go_loop [50] (fun i => ∃ k : Nat, k ≤ 3 /\ i = .int .i64 k /\ ∀ j, j < k -> V.numb (L.getD j []) true = true) (fun i => 3 - (intOf i).toNat)
      case atStart => exact ⟨0, by omega, rfl, fun j hj => by omega⟩
      case round =>
       obtain ⟨k, hk, rfl, hz⟩ := hrel
       have HZ := zpa hz
       clear hz
       by_cases hlt : k < 3
       ·have hcell := HCS.out k hlt
        have hkl := hln.out k
        rcases hnb : V.numb (L.getD k []) true with _ | _
        all_goals
         have HNB := zpa hnb
         clear hnb
         generalize hx : L.getD k [] = x at *
         have HX := zpa hx
         clear hx
         have hlt2 : k < L.length := by omega
         go_wp2_with fail
         refine (ks ⟨x.toArray⟩ true _ (by show x.length ≤ _; unfold maxLen; omega)).mono ?_
         rintro e w' ⟨rfl, rfl⟩
         simp only [HNB.out]
         go_wp2
        ·have HN : Hid (V.zl s.data.toList = none) := zpa (by
           rw [HP.out, if_neg (by simp [HL3.out, HI1.out, HI2.out]), if_neg]
           intro e
           rw [List.all_eq_true] at e
           have h1 := e (L.getD k []) (by rw [List.getD_eq_getElem?_getD, List.getElem?_eq_getElem hlt2]; exact List.getElem_mem hlt2)
           rw [HX.out] at h1
           simp [HNB.out] at h1)
         exact zpj
        ·exact zpw
       ·have HALL : Hid (L.all (fun x => V.numb x true) = true) := zpa (by
          rw [List.all_eq_true]
          intro x hx
          obtain ⟨j, hj, e⟩ := List.getElem_of_mem hx
          have := HZ.out j (by omega)
          rw [List.getD_eq_getElem?_getD, List.getElem?_eq_getElem hj] at this
          rw [← e]; exact this)
        have e0 := HCS.out 0 (by omega)
        have e1 := HCS.out 1 (by omega)
        have e2 := HCS.out 2 (by omega)
        generalize hx0 : L.getD 0 [] = x0 at *
        generalize hx1 : L.getD 1 [] = x1 at *
        generalize hx2 : L.getD 2 [] = x2 at *
        have HX0 := zpa hx0
        have HX1 := zpa hx1
        have HX2 := zpa hx2
        clear hx0 hx1 hx2
        have g0 : 0 < L.length := by omega
        have g1 : 1 < L.length := by omega
        have g2 : 2 < L.length := by omega
        go_wp2
        go_region
        have HN : Hid (V.zl s.data.toList = some (L, V.zo 46 pr)) := zpa (by rw [HP.out, if_neg (by simp [HL3.out, HI1.out, HI2.out]), if_pos HALL.out]; rfl)
        exact zph
     ·have hn3 : ((L.length : Int) != 3) = true := by rw [bne_iff_ne]; omega
      have HN : Hid (V.zl s.data.toList = none) := zpa (by rw [HP.out]; simp [h3, HI1.out, HI2.out])
      clear h3
      go_wp2
      exact zpj
end Go.Proofs.YtbikeahmldobkaaGreatDoor
