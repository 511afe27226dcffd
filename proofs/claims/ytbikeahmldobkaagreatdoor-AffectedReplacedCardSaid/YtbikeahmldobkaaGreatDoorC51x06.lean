/-
  Lemmas for the law.
-/
import Derived.Test.YtbikeahmldobkaaGreatDoorC51x04
import Derived.Test.YtbikeahmldobkaaGreatDoorC51x05
import Derived.BigRegion
set_option linter.all false
set_option maxRecDepth 100000
set_option maxHeartbeats 3200000
namespace Go.Proofs.YtbikeahmldobkaaGreatDoor
open Go.RowKit
theorem qs (tmps : Array Value) (w : World) (b : Nat) (x : Bool) (v0 v1 v2 v3 : Value) (h4 : tmps.getD 4 undef = .pointer (some ⟨b, 0, none⟩)) (h5 : tmps.getD 5 undef = .bool x)
  (c0 : w.cell? ⟨b, 0, none⟩ = some v0) (c1 : w.cell? ⟨b, 1, none⟩ = some v1) (c2 : w.cell? ⟨b, 2, none⟩ = some v2) (c3 : w.cell? ⟨b, 3, none⟩ = some v3) :
  (results Tryz.f228 tmps).run Tryz.prog w = .ok (.tuple #[.agg #[v0, v1, v2, v3], .bool x]) w := by
 have g0 : tmps[4]?.getD undef = .pointer (some ⟨b, 0, none⟩) := by simpa using h4
 have g1 : tmps[5]?.getD undef = .bool x := by simpa using h5
 simp [results, Tryz.results228, go_sem, g0, g1, c0, c1, c2, c3]
theorem zy1 {P : Prop} (h : P := by
 exact World.cell?_setCell_same _ _ _ ((o _ 1 2 _ (by omega)).trans ((o _ 0 2 _ (by omega)).trans c2))) : P := h
theorem set4 (w : World) (b : Nat) (u0 u1 u2 u3 v0 v1 v2 v3 : Value) (c0 : w.cell? ⟨b, 0, none⟩ = some u0) (c1 : w.cell? ⟨b, 1, none⟩ = some u1) (c2 : w.cell? ⟨b, 2, none⟩ = some u2) (c3 : w.cell? ⟨b, 3, none⟩ = some u3) :
  let W := (((w.setCell ⟨b, 0, none⟩ v0).setCell ⟨b, 1, none⟩ v1).setCell ⟨b, 2, none⟩ v2).setCell ⟨b, 3, none⟩ v3
  W.cell? ⟨b, 0, none⟩ = some v0 /\ W.cell? ⟨b, 1, none⟩ = some v1 /\ W.cell? ⟨b, 2, none⟩ = some v2 /\ W.cell? ⟨b, 3, none⟩ = some v3 := by
 have o : ∀ (W : World) (i j : Nat) (v : Value), i ≠ j -> (W.setCell ⟨b, i, none⟩ v).cell? ⟨b, j, none⟩ = W.cell? ⟨b, j, none⟩ := fun W i j v h => World.cell?_setCell_other _ _ _ _ (by simp )
 refine ⟨?_, ?_, ?_, ?_⟩
 ·rw [o _ 3 0 _ (by omega), o _ 2 0 _ (by omega), o _ 1 0 _ (by omega)]
  exact World.cell?_setCell_same _ _ _ c0
 ·rw [o _ 3 1 _ (by omega), o _ 2 1 _ (by omega)]
  exact World.cell?_setCell_same _ _ _ ((o _ 0 1 _ (by omega)).trans c1)
 ·rw [o _ 3 2 _ (by omega)]
  exact zy1
 ·exact World.cell?_setCell_same _ _ _ ((o _ 2 3 _ (by omega)).trans ((o _ 1 3 _ (by omega)).trans ((o _ 0 3 _ (by omega)).trans c3)))
theorem qz {w0 w : World} (b : Nat) (h : Below w0.heap.size w0 w) (hb : w0.heap.size ≤ b) (v0 v1 v2 v3 : Value) :
  Below w0.heap.size w0 ((((w.setCell ⟨b, 0, none⟩ v0).setCell ⟨b, 1, none⟩ v1).setCell ⟨b, 2, none⟩ v2).setCell ⟨b, 3, none⟩ v3) :=
 (((h.setCell (p := ⟨b, 0, none⟩) hb _).setCell (p := ⟨b, 1, none⟩) hb _).setCell (p := ⟨b, 2, none⟩) hb _).setCell (p := ⟨b, 3, none⟩) hb _
theorem qy {n : Nat} {cs : Array Value} {W W' : World} (hb : Below W.heap.size W W') (hn : n < W.heap.size) (hc : ∀ i, W.cell? ⟨n, i, none⟩ = cs[i]?) : ∀ i, W'.cell? ⟨n, i, none⟩ = cs[i]? :=
 fun i => (hb.cell (p := ⟨n, i, none⟩) hn).trans (hc i)
theorem qm {n : Nat} {W W' : World} (hb : Below W.heap.size W W') (hn : n < W.heap.size) (hc : ∀ i, W.frozen? ⟨n, i, none⟩ = false) : ∀ i, W'.frozen? ⟨n, i, none⟩ = false :=
 fun i => (hb.frozen (p := ⟨n, i, none⟩) hn).trans (hc i)
def zh1 (r : Option (List V.Bs × List V.Bs)) (w : World) (e : Ending) (w' : World) : Prop :=
 Below w.heap.size w w' /\ match r with
 | none => e = .returned (.tuple #[.agg #[.string ⟨#[]⟩, .string ⟨#[]⟩, .string ⟨#[]⟩, .slice none 0 0], .bool false])
 | some (l, pre) => ∃ pv, Strs w' pv pre /\ e = .returned (.tuple #[.agg #[.string ⟨(l.getD 0 []).toArray⟩, .string ⟨(l.getD 1 []).toArray⟩, .string ⟨(l.getD 2 []).toArray⟩, pv], .bool true])
theorem zvg {P : Prop} (h : P := by
 go_wp2_with fail
 refine (ki ⟨pr.toArray⟩ 46 _ (hmW.below (((zvb _ _).alloc (zva _) _).drew)) (by show pr.length < _; omega)).mono ?_
 rintro e w6 ⟨rfl, hw6⟩
 simp only  at hw6 ⊢
 have HN' := HN.out
 generalize hPR : V.zl 46 pr = PR at *
 have HSP := zu8 (hw6 ▸ Strs.split (w5.alloc (.cells #[.string ⟨x0.toArray⟩, .string ⟨x1.toArray⟩, .string ⟨x2.toArray⟩, .slice none 0 0] 260)).drew PR 9 : Strs w6 (.slice (some ⟨(w5.alloc (.cells #[.string ⟨x0.toArray⟩, .string ⟨x1.toArray⟩, .string ⟨x2.toArray⟩, .slice none 0 0] 260)).drew.heap.size, 0, none⟩) PR.length PR.length) PR)
 have hbA : Below w5.heap.size w5 (w5.alloc (.cells #[.string ⟨x0.toArray⟩, .string ⟨x1.toArray⟩, .string ⟨x2.toArray⟩, .slice none 0 0] 260)).drew := ((zvb _ _).alloc (zva _) _).drew
 have hbC : Below (w5.alloc (.cells #[.string ⟨x0.toArray⟩, .string ⟨x1.toArray⟩, .string ⟨x2.toArray⟩, .slice none 0 0] 260)).drew.heap.size (w5.alloc (.cells #[.string ⟨x0.toArray⟩, .string ⟨x1.toArray⟩, .string ⟨x2.toArray⟩, .slice none 0 0] 260)).drew w6 := by
  rw [hw6]; exact (zvb _ _).alloc (zva _) _
 have hc6 : ∀ i, w6.cell? ⟨w5.heap.size, i, none⟩ = #[Value.string ⟨x0.toArray⟩, .string ⟨x1.toArray⟩, .string ⟨x2.toArray⟩, .slice none 0 0][i]? :=
  qy hbC (by simp) (fun i => by rw [World.cell?_drew, zg, if_pos rfl])
 have hf6 : ∀ i, w6.frozen? ⟨w5.heap.size, i, none⟩ = false :=
  qm hbC (by simp) (fun i => by show (World.alloc _ _).frozen? _ = false; rw [qr, if_pos rfl])
 have hbD : Below w5.heap.size w5 w6 := hbA.trans (hbC.mono hbA.size)
 have hzD : w5.heap.size < w6.heap.size := Nat.lt_of_lt_of_le (by simp) hbC.size
 have s0 := hc6 0
 have s1 := hc6 1
 have s2 := hc6 2
 have s3 := hc6 3
 simp at s0 s1 s2 s3
 have k0 := (hbD.cell (p := ⟨w.heap.size + 1, 0, none⟩) hzW2).trans d0
 have k1 := (hbD.cell (p := ⟨w.heap.size + 1, 1, none⟩) hzW2).trans d1
 have k2 := (hbD.cell (p := ⟨w.heap.size + 1, 2, none⟩) hzW2).trans d2
 have k3 := (hbD.cell (p := ⟨w.heap.size + 1, 3, none⟩) hzW2).trans d3
 have hf7 := qm hbD hzW2 hfW
 have hz7 : w.heap.size + 1 < w6.heap.size := by omega
 have hbE := zu9 hbW hbD
 have HN2 := zu8 HN'
 clear HN' HN hw6 hbA hbC hc6 hbD hPR
 go_wp2
 have o := fun (j : Nat) => World.cell?_setCell_other w6 (⟨w5.heap.size, 3, none⟩ : Addr) ⟨w.heap.size + 1, j, none⟩ (.slice (some ⟨w5.heap.size + 1, 0, none⟩) PR.length PR.length) (by first | (simp; done) | (simp; omega))
 obtain ⟨q0, q1, q2, q3⟩ := set4 _ (w.heap.size + 1) _ _ _ _ (.string ⟨x0.toArray⟩) (.string ⟨x1.toArray⟩) (.string ⟨x2.toArray⟩) (.slice (some ⟨w5.heap.size + 1, 0, none⟩) PR.length PR.length) ((o 0).trans k0) ((o 1).trans k1) ((o 2).trans k2) ((o 3).trans k3)
 exact bodyPost_ret (qs _ _ (w.heap.size + 1) true _ _ _ _ rfl rfl q0 q1 q2 q3) rfl (by
   rw [HN2.out]
   refine ⟨qz (w.heap.size + 1) (hbE.out.setCell (p := ⟨w5.heap.size, 3, none⟩) (by show w.heap.size ≤ w5.heap.size; omega) _) (by omega) _ _ _ _, .slice (some ⟨w5.heap.size + 1, 0, none⟩) PR.length PR.length, ?_, ?_⟩
   · have h1 : w5.heap.size ≠ w5.heap.size + 1 := by omega
     have h2 : w.heap.size + 1 ≠ w5.heap.size + 1 := by omega
     have hS : Strs w6 (.slice (some ⟨w5.heap.size + 1, 0, none⟩) PR.length PR.length) PR := by simpa using HSP.out
     exact ((((hS.setCell h1 _).setCell h2 _).setCell h2 _).setCell h2 _).setCell h2 _
   · rw [HX0.out, HX1.out, HX2.out])) : P := h
theorem zvi {P : Prop} (h : P := by
 obtain ⟨q0, q1, q2, q3⟩ := set4 _ (w.heap.size + 1) _ _ _ _ (.string ⟨#[]⟩) (.string ⟨#[]⟩) (.string ⟨#[]⟩) (.slice none 0 0) d0 d1 d2 d3
 exact bodyPost_ret (qs _ _ (w.heap.size + 1) false _ _ _ _ rfl rfl q0 q1 q2 q3) rfl (by
   rw [HN.out]; exact ⟨qz (w.heap.size + 1) hbW.out (by omega) _ _ _ _, rfl⟩)) : P := h
theorem zvv {P : Prop} (h : P := by
 obtain ⟨a, cap, e, hc⟩ := HSW.out
 obtain ⟨b, off, ea, _, hcell⟩ := hc j (by omega)
 cases e; cases ea
 rw [List.getD_eq_getElem?_getD, List.getElem?_eq_getElem (by omega : j < L.length)]
 rw [Nat.zero_add] at hcell
 exact hcell) : P := h
theorem zvy {P : Prop} (h : P := by
 go_round
 case rel => exact ⟨k + 1, by omega, by go_num, fun j hj => by
   by_cases e : j = k
   · subst e; rw [HX.out]; exact HNB.out
   · exact HZ.out j (by omega)⟩
 case measure => simp [intOf]; omega) : P := h
theorem zv1 {P : Prop} (h : P := by
 exact bodyPost_ret (qs _ _ (w.heap.size + 1) true _ _ _ _ rfl rfl (by rw [World.cell?_drew, zg, if_neg (by simp; omega)]; exact q0) (by rw [World.cell?_drew, zg, if_neg (by simp; omega)]; exact q1) (by rw [World.cell?_drew, zg, if_neg (by simp; omega)]; exact q2) (by rw [World.cell?_drew, zg, if_neg (by simp; omega)]; exact q3)) rfl (by
   rw [HN.out]
   refine ⟨((qz (w.heap.size + 1) hbW.out (by omega) _ _ _ _).alloc (by simp; omega) _).drew, .slice none 0 0, Strs.nil _, ?_⟩
   rw [HX0.out, HX1.out, HX2.out])) : P := h
theorem zah (s : ByteArray) (w : World) (hm : zj w) (hs : s.size ≤ 1000) :
  Calls Tryz.prog 228 #[.agg #[], .string s] w (zh1 (V.zo s.data.toList) w) := by
 obtain ⟨v1, bu, B, g8⟩ : ∃ a b c, V.cut1 43 s.data.toList = (a, b, c) := ⟨_, _, _, rfl⟩
 obtain ⟨v2, pr, E, g9⟩ : ∃ a b c, V.cut1 45 v1 = (a, b, c) := ⟨_, _, _, rfl⟩
 obtain ⟨L, hL⟩ : ∃ L, V.zl 46 v2 = L := ⟨_, rfl⟩
 have HP : Hid (V.zo s.data.toList = if (B && !V.identifiers bu false) || (E && !V.identifiers pr true) || L.length != 3 then none else if L.all (fun x => V.numb x true) then some (L, if E then V.zl 46 pr else []) else none) := zu8 (by
   unfold V.zo
   rw [g8]
   simp only
   rw [g9]
   simp only
   rw [hL])
 have hl1 : v1.length ≤ s.size /\ bu.length ≤ s.size := by
  have := yg 43 s.data.toList
  rw [g8, zh] at this
  exact this
 have q8 : v2.length ≤ v1.length /\ pr.length ≤ v1.length := by
  have := yg 45 v1
  rw [g9] at this
  exact this
 have v9 : L.length ≤ v2.length + 1 := by rw [← hL]; exact jf 46 v2
 have k4 : Hid (∀ x ∈ L, x.length ≤ v2.length) := zu8 (fun x hx => jx 46 v2 x (by rw [hL]; exact hx))
 obtain ⟨hl1, v7⟩ := hl1
 obtain ⟨q8, v8⟩ := q8
 have HX1 := zu8 g8
 have HX2 := zu8 g9
 have HL := zu8 hL
 clear g8 g9 hL
 obtain ⟨W2, k6⟩ : ∃ W2, W2 = (w.alloc (.cells #[] 203)).alloc (.cells #[.string ⟨#[]⟩, .string ⟨#[]⟩, .string ⟨#[]⟩, .slice none 0 0] 260) := ⟨_, rfl⟩
 obtain ⟨hb2, k7, k8, k9⟩ := zl2 w #[] #[.string ⟨#[]⟩, .string ⟨#[]⟩, .string ⟨#[]⟩, .slice none 0 0] 203 260
 rw [← k6] at hb2 k7 k8 k9
 have q9 := hm.below hb2
 have HW := zu8 k6
 have j6 := zu8 k7
 have HF2 := zu8 k8
 have v5 := zu8 k9
 clear k6 k7 k8 k9
 go_enter Tryz.func228, Tryz.ntmps228
 go_wp2_with fail
 rw [← HW.out]
 refine (zcn s 43 _ q9 (by omega)).mono ?_
 rintro e w1 ⟨rfl, hb1⟩
 simp only [HX1.out]
 have v0 := q9.below hb1
 go_wp2_with fail
 refine (zcn ⟨v1.toArray⟩ 45 _ v0 (by show v1.length < _; omega)).mono ?_
 rintro e w3 ⟨rfl, hb3⟩
 simp only [HX2.out]
 have v3 := v0.below hb3
 go_wp2_with fail
 refine (ki ⟨v2.toArray⟩ 46 _ v3 (by show v2.length < _; omega)).mono ?_
 rintro e w4 ⟨rfl, k1⟩
 simp only [HL.out] at k1 ⊢
 have k3 := Strs.split w3 L 9
 rw [← k1] at k3
 have k5 : Below w3.heap.size w3 w4 := by rw [k1]; exact (zvb _ _).alloc (zva _) _
 have HS := zu8 k3
 have q4 := k1
 clear k3 k1
 have j3 := v3.below k5
 have g6 : Below W2.heap.size W2 w4 := hb1.trans ((hb3.mono hb1.size).trans (k5.mono (Nat.le_trans hb1.size hb3.size)))
 have h0 : w.heap.size + 1 < W2.heap.size := by rw [v5.out]; omega
 have j0 : w3.heap.size < w4.heap.size := by rw [q4]; simp
 have j1 : w.heap.size + 1 < w4.heap.size := Nat.lt_of_lt_of_le h0 g6.size
 clear q4
 have HB1 := zu8 hb1
 have HB3 := zu8 hb3
 have HB4 := zu8 k5
 clear hb1 hb3 k5
 cases B with
 | false =>
  have j4 : Below w4.heap.size w4 w4 := zvb _ _
  cases E with
  | false =>
   have g3 : Below W2.heap.size W2 w4 := g6.trans (j4.mono g6.size)
   have hmW : zj w4 := j3.below j4
   have hfW := qm g3 h0 HF2.out
   have g4 := qy g3 h0 j6.out
   have d0 := g4 0
   have d1 := g4 1
   have d2 := g4 2
   have d3 := g4 3
   simp at d0 d1 d2 d3
   have HSW := zu8 (HS.out.below j4)
   have j9 : w3.heap.size < w4.heap.size := Nat.lt_of_lt_of_le j0 j4.size
   have hzW2 : w.heap.size + 1 < w4.heap.size := Nat.lt_of_lt_of_le j1 j4.size
   have hbW : Hid (Below w.heap.size w w4) := zu8 (hb2.trans (g3.mono hb2.size))
   have k0 := zu8 j4
   clear g4 g3
   by_cases h3 : L.length = 3
   ·have h5 := h3
    have hcs : ∀ j, j < 3 -> w4.cell? ⟨w3.heap.size, j, none⟩ = some (.string ⟨(L.getD j []).toArray⟩) := fun j hj => by
     exact zvv
    have g7 := zu8 hcs
    have j7 : Hid (∀ j, (L.getD j []).length ≤ v2.length) := zu8 (fun j => by
      rcases Nat.lt_or_ge j L.length with h | h
      · rw [List.getD_eq_getElem?_getD, List.getElem?_eq_getElem h]; exact k4.out _ (List.getElem_mem h)
      · rw [List.getD_eq_getElem?_getD, List.getElem?_eq_none h]; simp)
    clear hcs
    have h6 := zu8 h5
    have q5 : L.length ≤ 3 := by omega
    have q6 : 3 ≤ L.length := by omega
    have j8 : ((L.length : Int) != 3) = false := by rw [bne_eq_false_iff_eq]; omega
    clear h5 h3
    go_wp2
    go_loop [50] (fun i => ∃ k : Nat, k ≤ 3 /\ i = .int .i64 k /\ ∀ j, j < k -> V.numb (L.getD j []) true = true) (fun i => 3 - (intOf i).toNat)
    case atStart => exact ⟨0, by omega, rfl, fun j hj => by omega⟩
    case round =>
     obtain ⟨k, hk, rfl, hz⟩ := hrel
     have HZ := zu8 hz
     clear hz
     by_cases hlt : k < 3
     ·have hcell := g7.out k hlt
      have q7 := j7.out k
      rcases h7 : V.numb (L.getD k []) true with _ | _
      all_goals
       have HNB := zu8 h7
       clear h7
       generalize hx : L.getD k [] = x at *
       have HX := zu8 hx
       clear hx
       have h2 : k < L.length := by omega
       go_wp2_with fail
       refine (yn ⟨x.toArray⟩ true _ (by show x.length ≤ _; unfold maxLen; omega)).mono ?_
       rintro e w' ⟨rfl, rfl⟩
       simp only [HNB.out]
       go_wp2
      ·have HN : Hid (V.zo s.data.toList = none) := zu8 (by
         rw [HP.out, if_neg (by simp [h6.out]), if_neg]
         intro e
         rw [List.all_eq_true] at e
         have h1 := e (L.getD k []) (by rw [List.getD_eq_getElem?_getD, List.getElem?_eq_getElem h2]; exact List.getElem_mem h2)
         rw [HX.out] at h1
         simp [HNB.out] at h1)
       exact zvi
      ·exact zvy
     ·have j2 : Hid (L.all (fun x => V.numb x true) = true) := zu8 (by
        rw [List.all_eq_true]
        intro x hx
        obtain ⟨j, hj, e⟩ := List.getElem_of_mem hx
        have := HZ.out j (by omega)
        rw [List.getD_eq_getElem?_getD, List.getElem?_eq_getElem hj] at this
        rw [← e]; exact this)
      have e0 := g7.out 0 (by omega)
      have e1 := g7.out 1 (by omega)
      have e2 := g7.out 2 (by omega)
      generalize h8 : L.getD 0 [] = x0 at *
      generalize g8 : L.getD 1 [] = x1 at *
      generalize g9 : L.getD 2 [] = x2 at *
      have HX0 := zu8 h8
      have HX1 := zu8 g8
      have HX2 := zu8 g9
      clear h8 g8 g9
      have g0 : 0 < L.length := by omega
      have g1 : 1 < L.length := by omega
      have g2 : 2 < L.length := by omega
      go_wp2
      go_region
      have HN : Hid (V.zo s.data.toList = some (L, [])) := zu8 (by rw [HP.out, if_neg (by simp [h6.out]), if_pos j2.out]; rfl)
      go_wp2
      obtain ⟨q0, q1, q2, q3⟩ := set4 w4 (w.heap.size + 1) _ _ _ _ (.string ⟨x0.toArray⟩) (.string ⟨x1.toArray⟩) (.string ⟨x2.toArray⟩) (.slice none 0 0) d0 d1 d2 d3
      exact zv1
   ·have j8 : ((L.length : Int) != 3) = true := by rw [bne_iff_ne]; omega
    have HN : Hid (V.zo s.data.toList = none) := zu8 (by rw [HP.out]; simp [h3])
    clear h3
    go_wp2
    exact zvi
  | true =>
   have v6 : zj w4 := j3.below j4
   rcases k2 : V.identifiers pr true with _ | _
   all_goals
    have h9 := zu8 k2
    clear k2
    go_wp2_with fail
    refine (wl ⟨pr.toArray⟩ true _ (by show pr.length ≤ _; unfold maxLen; omega)).mono ?_
    rintro e w5 ⟨rfl, hb5⟩
    simp only [h9.out]
    have g5 : Below w4.heap.size w4 w5 := Below.trans j4 (hb5.mono (Below.size j4))
    clear hb5
   ·have g3 : Below W2.heap.size W2 w5 := g6.trans (g5.mono g6.size)
    have hmW : zj w5 := j3.below g5
    have hfW := qm g3 h0 HF2.out
    have g4 := qy g3 h0 j6.out
    have d0 := g4 0
    have d1 := g4 1
    have d2 := g4 2
    have d3 := g4 3
    simp at d0 d1 d2 d3
    have HSW := zu8 (HS.out.below g5)
    have j9 : w3.heap.size < w5.heap.size := Nat.lt_of_lt_of_le j0 g5.size
    have hzW2 : w.heap.size + 1 < w5.heap.size := Nat.lt_of_lt_of_le j1 g5.size
    have hbW : Hid (Below w.heap.size w w5) := zu8 (hb2.trans (g3.mono hb2.size))
    have k0 := zu8 g5
    clear g4 g3
    have HN : Hid (V.zo s.data.toList = none) := zu8 (by rw [HP.out]; simp [h9.out])
    go_wp2
    exact zvi
   ·have g3 : Below W2.heap.size W2 w5 := g6.trans (g5.mono g6.size)
    have hmW : zj w5 := j3.below g5
    have hfW := qm g3 h0 HF2.out
    have g4 := qy g3 h0 j6.out
    have d0 := g4 0
    have d1 := g4 1
    have d2 := g4 2
    have d3 := g4 3
    simp at d0 d1 d2 d3
    have HSW := zu8 (HS.out.below g5)
    have j9 : w3.heap.size < w5.heap.size := Nat.lt_of_lt_of_le j0 g5.size
    have hzW2 : w.heap.size + 1 < w5.heap.size := Nat.lt_of_lt_of_le j1 g5.size
    have hbW : Hid (Below w.heap.size w w5) := zu8 (hb2.trans (g3.mono hb2.size))
    have k0 := zu8 g5
    clear g4 g3
    by_cases h3 : L.length = 3
    ·have h5 := h3
     have hcs : ∀ j, j < 3 -> w5.cell? ⟨w3.heap.size, j, none⟩ = some (.string ⟨(L.getD j []).toArray⟩) := fun j hj => by
      exact zvv
     have g7 := zu8 hcs
     have j7 : Hid (∀ j, (L.getD j []).length ≤ v2.length) := zu8 (fun j => by
       rcases Nat.lt_or_ge j L.length with h | h
       · rw [List.getD_eq_getElem?_getD, List.getElem?_eq_getElem h]; exact k4.out _ (List.getElem_mem h)
       · rw [List.getD_eq_getElem?_getD, List.getElem?_eq_none h]; simp)
     clear hcs
     have h6 := zu8 h5
     have q5 : L.length ≤ 3 := by omega
     have q6 : 3 ≤ L.length := by omega
     have j8 : ((L.length : Int) != 3) = false := by rw [bne_eq_false_iff_eq]; omega
     clear h5 h3
     go_wp2
     go_loop [50] (fun i => ∃ k : Nat, k ≤ 3 /\ i = .int .i64 k /\ ∀ j, j < k -> V.numb (L.getD j []) true = true) (fun i => 3 - (intOf i).toNat)
     case atStart => exact ⟨0, by omega, rfl, fun j hj => by omega⟩
     case round =>
      obtain ⟨k, hk, rfl, hz⟩ := hrel
      have HZ := zu8 hz
      clear hz
      by_cases hlt : k < 3
      ·have hcell := g7.out k hlt
       have q7 := j7.out k
       rcases h7 : V.numb (L.getD k []) true with _ | _
       all_goals
        have HNB := zu8 h7
        clear h7
        generalize hx : L.getD k [] = x at *
        have HX := zu8 hx
        clear hx
        have h2 : k < L.length := by omega
        go_wp2_with fail
        refine (yn ⟨x.toArray⟩ true _ (by show x.length ≤ _; unfold maxLen; omega)).mono ?_
        rintro e w' ⟨rfl, rfl⟩
        simp only [HNB.out]
        go_wp2
       ·have HN : Hid (V.zo s.data.toList = none) := zu8 (by
          rw [HP.out, if_neg (by simp [h6.out, h9.out]), if_neg]
          intro e
          rw [List.all_eq_true] at e
          have h1 := e (L.getD k []) (by rw [List.getD_eq_getElem?_getD, List.getElem?_eq_getElem h2]; exact List.getElem_mem h2)
          rw [HX.out] at h1
          simp [HNB.out] at h1)
        exact zvi
       ·exact zvy
      ·have j2 : Hid (L.all (fun x => V.numb x true) = true) := zu8 (by
         rw [List.all_eq_true]
         intro x hx
         obtain ⟨j, hj, e⟩ := List.getElem_of_mem hx
         have := HZ.out j (by omega)
         rw [List.getD_eq_getElem?_getD, List.getElem?_eq_getElem hj] at this
         rw [← e]; exact this)
       have e0 := g7.out 0 (by omega)
       have e1 := g7.out 1 (by omega)
       have e2 := g7.out 2 (by omega)
       generalize h8 : L.getD 0 [] = x0 at *
       generalize g8 : L.getD 1 [] = x1 at *
       generalize g9 : L.getD 2 [] = x2 at *
       have HX0 := zu8 h8
       have HX1 := zu8 g8
       have HX2 := zu8 g9
       clear h8 g8 g9
       have g0 : 0 < L.length := by omega
       have g1 : 1 < L.length := by omega
       have g2 : 2 < L.length := by omega
       go_wp2
       go_region
       have HN : Hid (V.zo s.data.toList = some (L, V.zl 46 pr)) := zu8 (by rw [HP.out, if_neg (by simp [h6.out, h9.out]), if_pos j2.out]; rfl)
       exact zvg
    ·have j8 : ((L.length : Int) != 3) = true := by rw [bne_iff_ne]; omega
     have HN : Hid (V.zo s.data.toList = none) := zu8 (by rw [HP.out]; simp [h3, h9.out])
     clear h3
     go_wp2
     exact zvi
 | true =>
  rcases v4 : V.identifiers bu false with _ | _
  all_goals
   have j5 := zu8 v4
   clear v4
   go_wp2_with fail
   refine (wl ⟨bu.toArray⟩ false _ (by show bu.length ≤ _; unfold maxLen; omega)).mono ?_
   rintro e wI ⟨rfl, h4⟩
   simp only [j5.out]
  ·have g3 : Below W2.heap.size W2 wI := g6.trans (h4.mono g6.size)
   have hmW : zj wI := j3.below h4
   have hfW := qm g3 h0 HF2.out
   have g4 := qy g3 h0 j6.out
   have d0 := g4 0
   have d1 := g4 1
   have d2 := g4 2
   have d3 := g4 3
   simp at d0 d1 d2 d3
   have HSW := zu8 (HS.out.below h4)
   have j9 : w3.heap.size < wI.heap.size := Nat.lt_of_lt_of_le j0 h4.size
   have hzW2 : w.heap.size + 1 < wI.heap.size := Nat.lt_of_lt_of_le j1 h4.size
   have hbW : Hid (Below w.heap.size w wI) := zu8 (hb2.trans (g3.mono hb2.size))
   have k0 := zu8 h4
   clear g4 g3
   have HN : Hid (V.zo s.data.toList = none) := zu8 (by rw [HP.out]; simp [j5.out])
   go_wp2
   exact zvi
  ·cases E with
   | false =>
    have g3 : Below W2.heap.size W2 wI := g6.trans (h4.mono g6.size)
    have hmW : zj wI := j3.below h4
    have hfW := qm g3 h0 HF2.out
    have g4 := qy g3 h0 j6.out
    have d0 := g4 0
    have d1 := g4 1
    have d2 := g4 2
    have d3 := g4 3
    simp at d0 d1 d2 d3
    have HSW := zu8 (HS.out.below h4)
    have j9 : w3.heap.size < wI.heap.size := Nat.lt_of_lt_of_le j0 h4.size
    have hzW2 : w.heap.size + 1 < wI.heap.size := Nat.lt_of_lt_of_le j1 h4.size
    have hbW : Hid (Below w.heap.size w wI) := zu8 (hb2.trans (g3.mono hb2.size))
    have k0 := zu8 h4
    clear g4 g3
    by_cases h3 : L.length = 3
    ·have h5 := h3
     have hcs : ∀ j, j < 3 -> wI.cell? ⟨w3.heap.size, j, none⟩ = some (.string ⟨(L.getD j []).toArray⟩) := fun j hj => by
      exact zvv
     have g7 := zu8 hcs
     have j7 : Hid (∀ j, (L.getD j []).length ≤ v2.length) := zu8 (fun j => by
       rcases Nat.lt_or_ge j L.length with h | h
       · rw [List.getD_eq_getElem?_getD, List.getElem?_eq_getElem h]; exact k4.out _ (List.getElem_mem h)
       · rw [List.getD_eq_getElem?_getD, List.getElem?_eq_none h]; simp)
     clear hcs
     have h6 := zu8 h5
     have q5 : L.length ≤ 3 := by omega
     have q6 : 3 ≤ L.length := by omega
     have j8 : ((L.length : Int) != 3) = false := by rw [bne_eq_false_iff_eq]; omega
     clear h5 h3
     go_wp2
     go_loop [50] (fun i => ∃ k : Nat, k ≤ 3 /\ i = .int .i64 k /\ ∀ j, j < k -> V.numb (L.getD j []) true = true) (fun i => 3 - (intOf i).toNat)
     case atStart => exact ⟨0, by omega, rfl, fun j hj => by omega⟩
     case round =>
      obtain ⟨k, hk, rfl, hz⟩ := hrel
      have HZ := zu8 hz
      clear hz
      by_cases hlt : k < 3
      ·have hcell := g7.out k hlt
       have q7 := j7.out k
       rcases h7 : V.numb (L.getD k []) true with _ | _
       all_goals
        have HNB := zu8 h7
        clear h7
        generalize hx : L.getD k [] = x at *
        have HX := zu8 hx
        clear hx
        have h2 : k < L.length := by omega
        go_wp2_with fail
        refine (yn ⟨x.toArray⟩ true _ (by show x.length ≤ _; unfold maxLen; omega)).mono ?_
        rintro e w' ⟨rfl, rfl⟩
        simp only [HNB.out]
        go_wp2
       ·have HN : Hid (V.zo s.data.toList = none) := zu8 (by
          rw [HP.out, if_neg (by simp [h6.out, j5.out]), if_neg]
          intro e
          rw [List.all_eq_true] at e
          have h1 := e (L.getD k []) (by rw [List.getD_eq_getElem?_getD, List.getElem?_eq_getElem h2]; exact List.getElem_mem h2)
          rw [HX.out] at h1
          simp [HNB.out] at h1)
        exact zvi
       ·exact zvy
      ·have j2 : Hid (L.all (fun x => V.numb x true) = true) := zu8 (by
         rw [List.all_eq_true]
         intro x hx
         obtain ⟨j, hj, e⟩ := List.getElem_of_mem hx
         have := HZ.out j (by omega)
         rw [List.getD_eq_getElem?_getD, List.getElem?_eq_getElem hj] at this
         rw [← e]; exact this)
       have e0 := g7.out 0 (by omega)
       have e1 := g7.out 1 (by omega)
       have e2 := g7.out 2 (by omega)
       generalize h8 : L.getD 0 [] = x0 at *
       generalize g8 : L.getD 1 [] = x1 at *
       generalize g9 : L.getD 2 [] = x2 at *
       have HX0 := zu8 h8
       have HX1 := zu8 g8
       have HX2 := zu8 g9
       clear h8 g8 g9
       have g0 : 0 < L.length := by omega
       have g1 : 1 < L.length := by omega
       have g2 : 2 < L.length := by omega
       go_wp2
       go_region
       have HN : Hid (V.zo s.data.toList = some (L, [])) := zu8 (by rw [HP.out, if_neg (by simp [h6.out, j5.out]), if_pos j2.out]; rfl)
       go_wp2
       obtain ⟨q0, q1, q2, q3⟩ := set4 wI (w.heap.size + 1) _ _ _ _ (.string ⟨x0.toArray⟩) (.string ⟨x1.toArray⟩) (.string ⟨x2.toArray⟩) (.slice none 0 0) d0 d1 d2 d3
       exact zv1
    ·have j8 : ((L.length : Int) != 3) = true := by rw [bne_iff_ne]; omega
     have HN : Hid (V.zo s.data.toList = none) := zu8 (by rw [HP.out]; simp [h3, j5.out])
     clear h3
     go_wp2
     exact zvi
   | true =>
    have v6 : zj wI := j3.below h4
    rcases k2 : V.identifiers pr true with _ | _
    all_goals
     have h9 := zu8 k2
     clear k2
     go_wp2_with fail
     refine (wl ⟨pr.toArray⟩ true _ (by show pr.length ≤ _; unfold maxLen; omega)).mono ?_
     rintro e w5 ⟨rfl, hb5⟩
     simp only [h9.out]
     have g5 : Below w4.heap.size w4 w5 := Below.trans h4 (hb5.mono (Below.size h4))
     clear hb5
    ·have g3 : Below W2.heap.size W2 w5 := g6.trans (g5.mono g6.size)
     have hmW : zj w5 := j3.below g5
     have hfW := qm g3 h0 HF2.out
     have g4 := qy g3 h0 j6.out
     have d0 := g4 0
     have d1 := g4 1
     have d2 := g4 2
     have d3 := g4 3
     simp at d0 d1 d2 d3
     have HSW := zu8 (HS.out.below g5)
     have j9 : w3.heap.size < w5.heap.size := Nat.lt_of_lt_of_le j0 g5.size
     have hzW2 : w.heap.size + 1 < w5.heap.size := Nat.lt_of_lt_of_le j1 g5.size
     have hbW : Hid (Below w.heap.size w w5) := zu8 (hb2.trans (g3.mono hb2.size))
     have k0 := zu8 g5
     clear g4 g3
     have HN : Hid (V.zo s.data.toList = none) := zu8 (by rw [HP.out]; simp [j5.out, h9.out])
     go_wp2
     exact zvi
    ·have g3 : Below W2.heap.size W2 w5 := g6.trans (g5.mono g6.size)
     have hmW : zj w5 := j3.below g5
     have hfW := qm g3 h0 HF2.out
     have g4 := qy g3 h0 j6.out
     have d0 := g4 0
     have d1 := g4 1
     have d2 := g4 2
     have d3 := g4 3
     simp at d0 d1 d2 d3
     have HSW := zu8 (HS.out.below g5)
     have j9 : w3.heap.size < w5.heap.size := Nat.lt_of_lt_of_le j0 g5.size
     have hzW2 : w.heap.size + 1 < w5.heap.size := Nat.lt_of_lt_of_le j1 g5.size
     have hbW : Hid (Below w.heap.size w w5) := zu8 (hb2.trans (g3.mono hb2.size))
     have k0 := zu8 g5
     clear g4 g3
     by_cases h3 : L.length = 3
     ·have h5 := h3
      have hcs : ∀ j, j < 3 -> w5.cell? ⟨w3.heap.size, j, none⟩ = some (.string ⟨(L.getD j []).toArray⟩) := fun j hj => by
       exact zvv
      have g7 := zu8 hcs
      have j7 : Hid (∀ j, (L.getD j []).length ≤ v2.length) := zu8 (fun j => by
        rcases Nat.lt_or_ge j L.length with h | h
        · rw [List.getD_eq_getElem?_getD, List.getElem?_eq_getElem h]; exact k4.out _ (List.getElem_mem h)
        · rw [List.getD_eq_getElem?_getD, List.getElem?_eq_none h]; simp)
      clear hcs
      have h6 := zu8 h5
      have q5 : L.length ≤ 3 := by omega
      have q6 : 3 ≤ L.length := by omega
      have j8 : ((L.length : Int) != 3) = false := by rw [bne_eq_false_iff_eq]; omega
      clear h5 h3
      go_wp2
      go_loop [50] (fun i => ∃ k : Nat, k ≤ 3 /\ i = .int .i64 k /\ ∀ j, j < k -> V.numb (L.getD j []) true = true) (fun i => 3 - (intOf i).toNat)
      case atStart => exact ⟨0, by omega, rfl, fun j hj => by omega⟩
      case round =>
       obtain ⟨k, hk, rfl, hz⟩ := hrel
       have HZ := zu8 hz
       clear hz
       by_cases hlt : k < 3
       ·have hcell := g7.out k hlt
        have q7 := j7.out k
        rcases h7 : V.numb (L.getD k []) true with _ | _
        all_goals
         have HNB := zu8 h7
         clear h7
         generalize hx : L.getD k [] = x at *
         have HX := zu8 hx
         clear hx
         have h2 : k < L.length := by omega
         go_wp2_with fail
         refine (yn ⟨x.toArray⟩ true _ (by show x.length ≤ _; unfold maxLen; omega)).mono ?_
         rintro e w' ⟨rfl, rfl⟩
         simp only [HNB.out]
         go_wp2
        ·have HN : Hid (V.zo s.data.toList = none) := zu8 (by
           rw [HP.out, if_neg (by simp [h6.out, j5.out, h9.out]), if_neg]
           intro e
           rw [List.all_eq_true] at e
           have h1 := e (L.getD k []) (by rw [List.getD_eq_getElem?_getD, List.getElem?_eq_getElem h2]; exact List.getElem_mem h2)
           rw [HX.out] at h1
           simp [HNB.out] at h1)
         exact zvi
        ·exact zvy
       ·have j2 : Hid (L.all (fun x => V.numb x true) = true) := zu8 (by
          rw [List.all_eq_true]
          intro x hx
          obtain ⟨j, hj, e⟩ := List.getElem_of_mem hx
          have := HZ.out j (by omega)
          rw [List.getD_eq_getElem?_getD, List.getElem?_eq_getElem hj] at this
          rw [← e]; exact this)
        have e0 := g7.out 0 (by omega)
        have e1 := g7.out 1 (by omega)
        have e2 := g7.out 2 (by omega)
        generalize h8 : L.getD 0 [] = x0 at *
        generalize g8 : L.getD 1 [] = x1 at *
        generalize g9 : L.getD 2 [] = x2 at *
        have HX0 := zu8 h8
        have HX1 := zu8 g8
        have HX2 := zu8 g9
        clear h8 g8 g9
        have g0 : 0 < L.length := by omega
        have g1 : 1 < L.length := by omega
        have g2 : 2 < L.length := by omega
        go_wp2
        go_region
        have HN : Hid (V.zo s.data.toList = some (L, V.zl 46 pr)) := zu8 (by rw [HP.out, if_neg (by simp [h6.out, j5.out, h9.out]), if_pos j2.out]; rfl)
        exact zvg
     ·have j8 : ((L.length : Int) != 3) = true := by rw [bne_iff_ne]; omega
      have HN : Hid (V.zo s.data.toList = none) := zu8 (by rw [HP.out]; simp [h3, j5.out, h9.out])
      clear h3
      go_wp2
      exact zvi
end Go.Proofs.YtbikeahmldobkaaGreatDoor
