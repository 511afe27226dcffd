import Derived.Test.YtcfbkcapbbhmpaaGreatDoorC39x02
import Derived.Test.YtcfbkcapbbhmpaaGreatDoorC39x03
import Derived.Test.YtcfbkcapbbhmpaaGreatDoorC39x01
import Derived.BigRegion
import Derived.Deep.RegionHeld3
set_option linter.all false
set_option maxRecDepth 100000
set_option maxHeartbeats 3200000
namespace Go.Proofs.YtcfbkcapbbhmpaaGreatDoor
open Go.RowKit
theorem qs (tmps : Array Value) (w : World) (b : Nat) (x : Bool) (v0 v1 v2 v3 : Value) (h4 : tmps.getD 4 undef = .pointer (some ⟨b, 0, none⟩)) (h5 : tmps.getD 5 undef = .bool x)
  (c0 : w.cell? ⟨b, 0, none⟩ = some v0) (c1 : w.cell? ⟨b, 1, none⟩ = some v1) (c2 : w.cell? ⟨b, 2, none⟩ = some v2) (c3 : w.cell? ⟨b, 3, none⟩ = some v3) :
  (results Tryz.f210 tmps).run Tryz.prog w = .ok (.tuple #[.agg #[v0, v1, v2, v3], .bool x]) w := by
 have h4' : tmps[4]?.getD undef = .pointer (some ⟨b, 0, none⟩) := by simpa using h4
 have h5' : tmps[5]?.getD undef = .bool x := by simpa using h5
 simp [results, Tryz.results210, go_sem, h4', h5', c0, c1, c2, c3]
theorem z18 {P : Prop} (h : P := by
 exact World.cell?_setCell_same _ _ _ ((o _ 1 2 _ (by omega)).trans ((o _ 0 2 _ (by omega)).trans c2))) : P := h
theorem set4 (w : World) (b : Nat) (u0 u1 u2 u3 v0 v1 v2 v3 : Value) (c0 : w.cell? ⟨b, 0, none⟩ = some u0) (c1 : w.cell? ⟨b, 1, none⟩ = some u1) (c2 : w.cell? ⟨b, 2, none⟩ = some u2) (c3 : w.cell? ⟨b, 3, none⟩ = some u3) :
  let W := (((w.setCell ⟨b, 0, none⟩ v0).setCell ⟨b, 1, none⟩ v1).setCell ⟨b, 2, none⟩ v2).setCell ⟨b, 3, none⟩ v3
  W.cell? ⟨b, 0, none⟩ = some v0 /\ W.cell? ⟨b, 1, none⟩ = some v1 /\ W.cell? ⟨b, 2, none⟩ = some v2 /\ W.cell? ⟨b, 3, none⟩ = some v3 := by
 have o : ∀ (W : World) (i j : Nat) (v : Value), i ≠ j -> (W.setCell ⟨b, i, none⟩ v).cell? ⟨b, j, none⟩ = W.cell? ⟨b, j, none⟩ := fun W i j v h => World.cell?_setCell_other _ _ _ _ (by simp )
 refine ⟨?_, ?_, ?_, ?_⟩
 ·rw [o _ 3 0 _ (by omega), o _ 2 0 _ (by omega), o _ 1 0 _ (by omega)]
  exact World.cell?_setCell_same _ _ _ c0
 ·rw [o _ 3 1 _ (by omega), o _ 2 1 _ (by omega)]
  exact World.cell?_setCell_same _ _ _ ((o _ 0 1 _ (by omega)).trans c1)
 ·rw [o _ 3 2 _ (by omega)]
  exact z18
 ·exact World.cell?_setCell_same _ _ _ ((o _ 2 3 _ (by omega)).trans ((o _ 1 3 _ (by omega)).trans ((o _ 0 3 _ (by omega)).trans c3)))
theorem jf {w0 w : World} (b : Nat) (h : Below w0.heap.size w0 w) (hb : w0.heap.size ≤ b) (v0 v1 v2 v3 : Value) :
  Below w0.heap.size w0 ((((w.setCell ⟨b, 0, none⟩ v0).setCell ⟨b, 1, none⟩ v1).setCell ⟨b, 2, none⟩ v2).setCell ⟨b, 3, none⟩ v3) :=
 (((h.setCell (p := ⟨b, 0, none⟩) hb _).setCell (p := ⟨b, 1, none⟩) hb _).setCell (p := ⟨b, 2, none⟩) hb _).setCell (p := ⟨b, 3, none⟩) hb _
theorem je {n : Nat} {cs : Array Value} {W W' : World} (hb : Below W.heap.size W W') (hn : n < W.heap.size) (hc : ∀ i, W.cell? ⟨n, i, none⟩ = cs[i]?) : ∀ i, W'.cell? ⟨n, i, none⟩ = cs[i]? :=
 fun i => (hb.cell (p := ⟨n, i, none⟩) hn).trans (hc i)
theorem qo {n : Nat} {W W' : World} (hb : Below W.heap.size W W') (hn : n < W.heap.size) (hc : ∀ i, W.frozen? ⟨n, i, none⟩ = false) : ∀ i, W'.frozen? ⟨n, i, none⟩ = false :=
 fun i => (hb.frozen (p := ⟨n, i, none⟩) hn).trans (hc i)
def zju (r : Option (List V.Bs × List V.Bs)) (w : World) (e : Ending) (w' : World) : Prop :=
 Below w.heap.size w w' /\ match r with
 | none => e = .returned (.tuple #[.agg #[.string ⟨#[]⟩, .string ⟨#[]⟩, .string ⟨#[]⟩, .slice none 0 0], .bool false])
 | some (l, pre) => ∃ pv, Strs w' pv pre /\ e = .returned (.tuple #[.agg #[.string ⟨(l.getD 0 []).toArray⟩, .string ⟨(l.getD 1 []).toArray⟩, .string ⟨(l.getD 2 []).toArray⟩, pv], .bool true])
theorem zwp {P : Prop} (h : P := by
 go_wp2_with fail
 refine (kp ⟨pr.toArray⟩ 46 _ (hmW.below (((zwh _ _).alloc (zwg _) _).drew)) (by show pr.length < _; omega)).mono ?_
 rintro e w6 ⟨rfl, hw6⟩
 simp only  at hw6 ⊢
 have HN' := HN.out
 generalize hPR : V.zd 46 pr = PR at *
 have HSP := zwe (hw6 ▸ Strs.split (w5.alloc (.cells #[.string ⟨x0.toArray⟩, .string ⟨x1.toArray⟩, .string ⟨x2.toArray⟩, .slice none 0 0] 226)).drew PR 9 : Strs w6 (.slice (some ⟨(w5.alloc (.cells #[.string ⟨x0.toArray⟩, .string ⟨x1.toArray⟩, .string ⟨x2.toArray⟩, .slice none 0 0] 226)).drew.heap.size, 0, none⟩) PR.length PR.length) PR)
 have hbA : Below w5.heap.size w5 (w5.alloc (.cells #[.string ⟨x0.toArray⟩, .string ⟨x1.toArray⟩, .string ⟨x2.toArray⟩, .slice none 0 0] 226)).drew := ((zwh _ _).alloc (zwg _) _).drew
 have hbC : Below (w5.alloc (.cells #[.string ⟨x0.toArray⟩, .string ⟨x1.toArray⟩, .string ⟨x2.toArray⟩, .slice none 0 0] 226)).drew.heap.size (w5.alloc (.cells #[.string ⟨x0.toArray⟩, .string ⟨x1.toArray⟩, .string ⟨x2.toArray⟩, .slice none 0 0] 226)).drew w6 := by
  rw [hw6]; exact (zwh _ _).alloc (zwg _) _
 have hc6 : ∀ i, w6.cell? ⟨w5.heap.size, i, none⟩ = #[Value.string ⟨x0.toArray⟩, .string ⟨x1.toArray⟩, .string ⟨x2.toArray⟩, .slice none 0 0][i]? :=
  je hbC (by simp) (fun i => by rw [World.cell?_drew, ze, if_pos rfl])
 have hf6 : ∀ i, w6.frozen? ⟨w5.heap.size, i, none⟩ = false :=
  qo hbC (by simp) (fun i => by show (World.alloc _ _).frozen? _ = false; rw [zz, if_pos rfl])
 have hbD : Below w5.heap.size w5 w6 := hbA.trans (hbC.mono hbA.size)
 have hzD : w5.heap.size < w6.heap.size := Nat.lt_of_lt_of_le (by simp) hbC.size
 have s0 := hc6 0
 have s1 := hc6 1
 have s2 := hc6 2
 have s3 := hc6 3
 simp at s0 s1 s2 s3
 have k0 := (hbD.cell (p := ⟨w.heap.size + 1, 0, none⟩) hzW2).trans d0
 have k1 := (hbD.cell (p := ⟨w.heap.size + 1, 1, none⟩) hzW2).trans d1
 have k2 := (hbD.cell (p := ⟨w.heap.size + 1, 2, none⟩) hzW2).trans d2
 have k3 := (hbD.cell (p := ⟨w.heap.size + 1, 3, none⟩) hzW2).trans d3
 have hf7 := qo hbD hzW2 hfW
 have hz7 : w.heap.size + 1 < w6.heap.size := by omega
 have hbE := zwf hbW hbD
 have HN2 := zwe HN'
 clear HN' HN hw6 hbA hbC hc6 hbD hPR
 go_wp2
 have o := fun (j : Nat) => World.cell?_setCell_other w6 (⟨w5.heap.size, 3, none⟩ : Addr) ⟨w.heap.size + 1, j, none⟩ (.slice (some ⟨w5.heap.size + 1, 0, none⟩) PR.length PR.length) (by first | (simp; done) | (simp; omega))
 obtain ⟨q0, q1, q2, q3⟩ := set4 _ (w.heap.size + 1) _ _ _ _ (.string ⟨x0.toArray⟩) (.string ⟨x1.toArray⟩) (.string ⟨x2.toArray⟩) (.slice (some ⟨w5.heap.size + 1, 0, none⟩) PR.length PR.length) ((o 0).trans k0) ((o 1).trans k1) ((o 2).trans k2) ((o 3).trans k3)
 exact bodyPost_ret (qs _ _ (w.heap.size + 1) true _ _ _ _ rfl rfl q0 q1 q2 q3) rfl (by
   rw [HN2.out]
   refine ⟨jf (w.heap.size + 1) (hbE.out.setCell (p := ⟨w5.heap.size, 3, none⟩) (by show w.heap.size ≤ w5.heap.size; omega) _) (by omega) _ _ _ _, .slice (some ⟨w5.heap.size + 1, 0, none⟩) PR.length PR.length, ?_, ?_⟩
   · have h1 : w5.heap.size ≠ w5.heap.size + 1 := by omega
     have h2 : w.heap.size + 1 ≠ w5.heap.size + 1 := by omega
     have hS : Strs w6 (.slice (some ⟨w5.heap.size + 1, 0, none⟩) PR.length PR.length) PR := by simpa using HSP.out
     exact ((((hS.setCell h1 _).setCell h2 _).setCell h2 _).setCell h2 _).setCell h2 _
   · rw [HX0.out, HX1.out, HX2.out])) : P := h
theorem zwt {P : Prop} (h : P := by
 obtain ⟨q0, q1, q2, q3⟩ := set4 _ (w.heap.size + 1) _ _ _ _ (.string ⟨#[]⟩) (.string ⟨#[]⟩) (.string ⟨#[]⟩) (.slice none 0 0) d0 d1 d2 d3
 exact bodyPost_ret (qs _ _ (w.heap.size + 1) false _ _ _ _ rfl rfl q0 q1 q2 q3) rfl (by
   rw [HN.out]; exact ⟨jf (w.heap.size + 1) hbW.out (by omega) _ _ _ _, rfl⟩)) : P := h
theorem zx0 {P : Prop} (h : P := by
 obtain ⟨a, cap, e, hc⟩ := HSW.out
 obtain ⟨b, off, ea, _, hcell⟩ := hc j (by omega)
 cases e; cases ea
 rw [List.getD_eq_getElem?_getD, List.getElem?_eq_getElem (by omega : j < L.length)]
 rw [Nat.zero_add] at hcell
 exact hcell) : P := h
theorem zx4 {P : Prop} (h : P := by
 go_round
 case rel => exact ⟨k + 1, by omega, by go_num, fun j hj => by
   by_cases e : j = k
   · subst e; rw [HX.out]; exact HNB.out
   · exact HZ.out j (by omega)⟩
 case measure => simp [intOf]; omega) : P := h
theorem zx8 {P : Prop} (h : P := by
 exact bodyPost_ret (qs _ _ (w.heap.size + 1) true _ _ _ _ rfl rfl (by rw [World.cell?_drew, ze, if_neg (by simp; omega)]; exact q0) (by rw [World.cell?_drew, ze, if_neg (by simp; omega)]; exact q1) (by rw [World.cell?_drew, ze, if_neg (by simp; omega)]; exact q2) (by rw [World.cell?_drew, ze, if_neg (by simp; omega)]; exact q3)) rfl (by
   rw [HN.out]
   refine ⟨((jf (w.heap.size + 1) hbW.out (by omega) _ _ _ _).alloc (by simp; omega) _).drew, .slice none 0 0, Strs.nil _, ?_⟩
   rw [HX0.out, HX1.out, HX2.out])) : P := h
theorem zbl (s : ByteArray) (w : World) (hm : zg w) (hs : s.size ≤ 1000) :
  Calls Tryz.prog 210 #[.agg #[], .string s] w (zju (V.zq s.data.toList) w) := by
 obtain ⟨v1, bu, B, hx1⟩ : ∃ a b c, V.cut1 43 s.data.toList = (a, b, c) := ⟨_, _, _, rfl⟩
 obtain ⟨v2, pr, E, hx2⟩ : ∃ a b c, V.cut1 45 v1 = (a, b, c) := ⟨_, _, _, rfl⟩
 obtain ⟨L, hL⟩ : ∃ L, V.zd 46 v2 = L := ⟨_, rfl⟩
 have HP : Hid (V.zq s.data.toList = if (B && !V.identifiers bu false) || (E && !V.identifiers pr true) || L.length != 3 then none else if L.all (fun x => V.numb x true) then some (L, if E then V.zd 46 pr else []) else none) := zwe (by
   unfold V.zq
   rw [hx1]
   simp only
   rw [hx2]
   simp only
   rw [hL])
 have hl1 : v1.length ≤ s.size /\ bu.length ≤ s.size := by
  have := uo 43 s.data.toList
  rw [hx1, zf] at this
  exact this
 have hl2 : v2.length ≤ v1.length /\ pr.length ≤ v1.length := by
  have := uo 45 v1
  rw [hx2] at this
  exact this
 have hl3 : L.length ≤ v2.length + 1 := by rw [← hL]; exact jn 46 v2
 have hl4 : Hid (∀ x ∈ L, x.length ≤ v2.length) := zwe (fun x hx => kd 46 v2 x (by rw [hL]; exact hx))
 obtain ⟨hl1, hl1'⟩ := hl1
 obtain ⟨hl2, hl2'⟩ := hl2
 have HX1 := zwe hx1
 have HX2 := zwe hx2
 have HL := zwe hL
 clear hx1 hx2 hL
 obtain ⟨W2, hW2⟩ : ∃ W2, W2 = (w.alloc (.cells #[] 183)).alloc (.cells #[.string ⟨#[]⟩, .string ⟨#[]⟩, .string ⟨#[]⟩, .slice none 0 0] 226) := ⟨_, rfl⟩
 obtain ⟨hb2, hc2, hf2, hz2⟩ := ze8 w #[] #[.string ⟨#[]⟩, .string ⟨#[]⟩, .string ⟨#[]⟩, .slice none 0 0] 183 226
 rw [← hW2] at hb2 hc2 hf2 hz2
 have hm2 := hm.below hb2
 have HW := zwe hW2
 have HC2 := zwe hc2
 have HF2 := zwe hf2
 have HZ2 := zwe hz2
 clear hW2 hc2 hf2 hz2
 go_enter Tryz.func210, Tryz.ntmps210
 go_wp2_with fail
 rw [← HW.out]
 refine (zdm s 43 _ hm2 (by omega)).mono ?_
 rintro e w1 ⟨rfl, hb1⟩
 simp only [HX1.out]
 have hm1 := hm2.below hb1
 go_wp2_with fail
 refine (zdm ⟨v1.toArray⟩ 45 _ hm1 (by show v1.length < _; omega)).mono ?_
 rintro e w3 ⟨rfl, hb3⟩
 simp only [HX2.out]
 have hm3 := hm1.below hb3
 go_wp2_with fail
 refine (kp ⟨v2.toArray⟩ 46 _ hm3 (by show v2.length < _; omega)).mono ?_
 rintro e w4 ⟨rfl, hw4⟩
 simp only [HL.out] at hw4 ⊢
 have hstr := Strs.split w3 L 9
 rw [← hw4] at hstr
 have hb4 : Below w3.heap.size w3 w4 := by rw [hw4]; exact (zwh _ _).alloc (zwg _) _
 have HS := zwe hstr
 have hw4' := hw4
 clear hstr hw4
 have hm4 := hm3.below hb4
 have hb24 : Below W2.heap.size W2 w4 := hb1.trans ((hb3.mono hb1.size).trans (hb4.mono (Nat.le_trans hb1.size hb3.size)))
 have hn2 : w.heap.size + 1 < W2.heap.size := by rw [HZ2.out]; omega
 have hz34 : w3.heap.size < w4.heap.size := by rw [hw4']; simp
 have hz24 : w.heap.size + 1 < w4.heap.size := Nat.lt_of_lt_of_le hn2 hb24.size
 clear hw4'
 have HB1 := zwe hb1
 have HB3 := zwe hb3
 have HB4 := zwe hb4
 clear hb1 hb3 hb4
 cases B with
 | false =>
  have hbr : Below w4.heap.size w4 w4 := zwh _ _
  cases E with
  | false =>
   have hb2W : Below W2.heap.size W2 w4 := hb24.trans (hbr.mono hb24.size)
   have hmW : zg w4 := hm4.below hbr
   have hfW := qo hb2W hn2 HF2.out
   have hcW := je hb2W hn2 HC2.out
   have d0 := hcW 0
   have d1 := hcW 1
   have d2 := hcW 2
   have d3 := hcW 3
   simp at d0 d1 d2 d3
   have HSW := zwe (HS.out.below hbr)
   have hzW : w3.heap.size < w4.heap.size := Nat.lt_of_lt_of_le hz34 hbr.size
   have hzW2 : w.heap.size + 1 < w4.heap.size := Nat.lt_of_lt_of_le hz24 hbr.size
   have hbW : Hid (Below w.heap.size w w4) := zwe (hb2.trans (hb2W.mono hb2.size))
   have HBW := zwe hbr
   clear hcW hb2W
   by_cases h3 : L.length = 3
   ·have hL3 := h3
    have hcs : ∀ j, j < 3 -> w4.cell? ⟨w3.heap.size, j, none⟩ = some (.string ⟨(L.getD j []).toArray⟩) := fun j hj => by
     exact zx0
    have HCS := zwe hcs
    have hln : Hid (∀ j, (L.getD j []).length ≤ v2.length) := zwe (fun j => by
      rcases Nat.lt_or_ge j L.length with h | h
      · rw [List.getD_eq_getElem?_getD, List.getElem?_eq_getElem h]; exact hl4.out _ (List.getElem_mem h)
      · rw [List.getD_eq_getElem?_getD, List.getElem?_eq_none h]; simp)
    clear hcs
    have HL3 := zwe hL3
    have hle : L.length ≤ 3 := by omega
    have hge : 3 ≤ L.length := by omega
    have hn3 : ((L.length : Int) != 3) = false := by rw [bne_eq_false_iff_eq]; omega
    clear hL3 h3
    go_wp2
    go_loop [50] (fun i => ∃ k : Nat, k ≤ 3 /\ i = .int .i64 k /\ ∀ j, j < k -> V.numb (L.getD j []) true = true) (fun i => 3 - (intOf i).toNat)
    case atStart => exact ⟨0, by omega, rfl, fun j hj => by omega⟩
    case round =>
     obtain ⟨k, hk, rfl, hz⟩ := hrel
     have HZ := zwe hz
     clear hz
     by_cases hlt : k < 3
     ·have hcell := HCS.out k hlt
      have hkl := hln.out k
      rcases hnb : V.numb (L.getD k []) true with _ | _
      all_goals
       have HNB := zwe hnb
       clear hnb
       generalize hx : L.getD k [] = x at *
       have HX := zwe hx
       clear hx
       have hlt2 : k < L.length := by omega
       go_wp2_with fail
       refine (vj ⟨x.toArray⟩ true _ (by show x.length ≤ _; unfold maxLen; omega)).mono ?_
       rintro e w' ⟨rfl, rfl⟩
       simp only [HNB.out]
       go_wp2
      ·have HN : Hid (V.zq s.data.toList = none) := zwe (by
         rw [HP.out, if_neg (by simp [HL3.out]), if_neg]
         intro e
         rw [List.all_eq_true] at e
         have h1 := e (L.getD k []) (by rw [List.getD_eq_getElem?_getD, List.getElem?_eq_getElem hlt2]; exact List.getElem_mem hlt2)
         rw [HX.out] at h1
         simp [HNB.out] at h1)
       exact zwt
      ·exact zx4
     ·have HALL : Hid (L.all (fun x => V.numb x true) = true) := zwe (by
        rw [List.all_eq_true]
        intro x hx
        obtain ⟨j, hj, e⟩ := List.getElem_of_mem hx
        have := HZ.out j (by omega)
        rw [List.getD_eq_getElem?_getD, List.getElem?_eq_getElem hj] at this
        rw [← e]; exact this)
      have e0 := HCS.out 0 (by omega)
      have e1 := HCS.out 1 (by omega)
      have e2 := HCS.out 2 (by omega)
      generalize hx0 : L.getD 0 [] = x0 at *
      generalize hx1 : L.getD 1 [] = x1 at *
      generalize hx2 : L.getD 2 [] = x2 at *
      have HX0 := zwe hx0
      have HX1 := zwe hx1
      have HX2 := zwe hx2
      clear hx0 hx1 hx2
      have g0 : 0 < L.length := by omega
      have g1 : 1 < L.length := by omega
      have g2 : 2 < L.length := by omega
      go_wp2
      go_region
      have HN : Hid (V.zq s.data.toList = some (L, [])) := zwe (by rw [HP.out, if_neg (by simp [HL3.out]), if_pos HALL.out]; rfl)
      go_wp2
      obtain ⟨q0, q1, q2, q3⟩ := set4 w4 (w.heap.size + 1) _ _ _ _ (.string ⟨x0.toArray⟩) (.string ⟨x1.toArray⟩) (.string ⟨x2.toArray⟩) (.slice none 0 0) d0 d1 d2 d3
      exact zx8
   ·have hn3 : ((L.length : Int) != 3) = true := by rw [bne_iff_ne]; omega
    have HN : Hid (V.zq s.data.toList = none) := zwe (by rw [HP.out]; simp [h3])
    clear h3
    go_wp2
    exact zwt
  | true =>
   have hmX : zg w4 := hm4.below hbr
   rcases hi2 : V.identifiers pr true with _ | _
   all_goals
    have HI2 := zwe hi2
    clear hi2
    go_wp2_with fail
    refine (za2 ⟨pr.toArray⟩ true _ (by show pr.length ≤ _; unfold maxLen; omega)).mono ?_
    rintro e w5 ⟨rfl, hb5⟩
    simp only [HI2.out]
    have hb45 : Below w4.heap.size w4 w5 := Below.trans hbr (hb5.mono (Below.size hbr))
    clear hb5
   ·have hb2W : Below W2.heap.size W2 w5 := hb24.trans (hb45.mono hb24.size)
    have hmW : zg w5 := hm4.below hb45
    have hfW := qo hb2W hn2 HF2.out
    have hcW := je hb2W hn2 HC2.out
    have d0 := hcW 0
    have d1 := hcW 1
    have d2 := hcW 2
    have d3 := hcW 3
    simp at d0 d1 d2 d3
    have HSW := zwe (HS.out.below hb45)
    have hzW : w3.heap.size < w5.heap.size := Nat.lt_of_lt_of_le hz34 hb45.size
    have hzW2 : w.heap.size + 1 < w5.heap.size := Nat.lt_of_lt_of_le hz24 hb45.size
    have hbW : Hid (Below w.heap.size w w5) := zwe (hb2.trans (hb2W.mono hb2.size))
    have HBW := zwe hb45
    clear hcW hb2W
    have HN : Hid (V.zq s.data.toList = none) := zwe (by rw [HP.out]; simp [HI2.out])
    go_wp2
    exact zwt
   ·have hb2W : Below W2.heap.size W2 w5 := hb24.trans (hb45.mono hb24.size)
    have hmW : zg w5 := hm4.below hb45
    have hfW := qo hb2W hn2 HF2.out
    have hcW := je hb2W hn2 HC2.out
    have d0 := hcW 0
    have d1 := hcW 1
    have d2 := hcW 2
    have d3 := hcW 3
    simp at d0 d1 d2 d3
    have HSW := zwe (HS.out.below hb45)
    have hzW : w3.heap.size < w5.heap.size := Nat.lt_of_lt_of_le hz34 hb45.size
    have hzW2 : w.heap.size + 1 < w5.heap.size := Nat.lt_of_lt_of_le hz24 hb45.size
    have hbW : Hid (Below w.heap.size w w5) := zwe (hb2.trans (hb2W.mono hb2.size))
    have HBW := zwe hb45
    clear hcW hb2W
    by_cases h3 : L.length = 3
    ·have hL3 := h3
     have hcs : ∀ j, j < 3 -> w5.cell? ⟨w3.heap.size, j, none⟩ = some (.string ⟨(L.getD j []).toArray⟩) := fun j hj => by
      exact zx0
     have HCS := zwe hcs
     have hln : Hid (∀ j, (L.getD j []).length ≤ v2.length) := zwe (fun j => by
       rcases Nat.lt_or_ge j L.length with h | h
       · rw [List.getD_eq_getElem?_getD, List.getElem?_eq_getElem h]; exact hl4.out _ (List.getElem_mem h)
       · rw [List.getD_eq_getElem?_getD, List.getElem?_eq_none h]; simp)
     clear hcs
     have HL3 := zwe hL3
     have hle : L.length ≤ 3 := by omega
     have hge : 3 ≤ L.length := by omega
     have hn3 : ((L.length : Int) != 3) = false := by rw [bne_eq_false_iff_eq]; omega
     clear hL3 h3
     go_wp2
     go_loop [50] (fun i => ∃ k : Nat, k ≤ 3 /\ i = .int .i64 k /\ ∀ j, j < k -> V.numb (L.getD j []) true = true) (fun i => 3 - (intOf i).toNat)
     case atStart => exact ⟨0, by omega, rfl, fun j hj => by omega⟩
     case round =>
      obtain ⟨k, hk, rfl, hz⟩ := hrel
      have HZ := zwe hz
      clear hz
      by_cases hlt : k < 3
      ·have hcell := HCS.out k hlt
       have hkl := hln.out k
       rcases hnb : V.numb (L.getD k []) true with _ | _
       all_goals
        have HNB := zwe hnb
        clear hnb
        generalize hx : L.getD k [] = x at *
        have HX := zwe hx
        clear hx
        have hlt2 : k < L.length := by omega
        go_wp2_with fail
        refine (vj ⟨x.toArray⟩ true _ (by show x.length ≤ _; unfold maxLen; omega)).mono ?_
        rintro e w' ⟨rfl, rfl⟩
        simp only [HNB.out]
        go_wp2
       ·have HN : Hid (V.zq s.data.toList = none) := zwe (by
          rw [HP.out, if_neg (by simp [HL3.out, HI2.out]), if_neg]
          intro e
          rw [List.all_eq_true] at e
          have h1 := e (L.getD k []) (by rw [List.getD_eq_getElem?_getD, List.getElem?_eq_getElem hlt2]; exact List.getElem_mem hlt2)
          rw [HX.out] at h1
          simp [HNB.out] at h1)
        exact zwt
       ·exact zx4
      ·have HALL : Hid (L.all (fun x => V.numb x true) = true) := zwe (by
         rw [List.all_eq_true]
         intro x hx
         obtain ⟨j, hj, e⟩ := List.getElem_of_mem hx
         have := HZ.out j (by omega)
         rw [List.getD_eq_getElem?_getD, List.getElem?_eq_getElem hj] at this
         rw [← e]; exact this)
       have e0 := HCS.out 0 (by omega)
       have e1 := HCS.out 1 (by omega)
       have e2 := HCS.out 2 (by omega)
       generalize hx0 : L.getD 0 [] = x0 at *
       generalize hx1 : L.getD 1 [] = x1 at *
       generalize hx2 : L.getD 2 [] = x2 at *
       have HX0 := zwe hx0
       have HX1 := zwe hx1
       have HX2 := zwe hx2
       clear hx0 hx1 hx2
       have g0 : 0 < L.length := by omega
       have g1 : 1 < L.length := by omega
       have g2 : 2 < L.length := by omega
       go_wp2
       go_region
       have HN : Hid (V.zq s.data.toList = some (L, V.zd 46 pr)) := zwe (by rw [HP.out, if_neg (by simp [HL3.out, HI2.out]), if_pos HALL.out]; rfl)
       exact zwp
    ·have hn3 : ((L.length : Int) != 3) = true := by rw [bne_iff_ne]; omega
     have HN : Hid (V.zq s.data.toList = none) := zwe (by rw [HP.out]; simp [h3, HI2.out])
     clear h3
     go_wp2
     exact zwt
 | true =>
  rcases hi1 : V.identifiers bu false with _ | _
  all_goals
   have HI1 := zwe hi1
   clear hi1
   go_wp2_with fail
   refine (za2 ⟨bu.toArray⟩ false _ (by show bu.length ≤ _; unfold maxLen; omega)).mono ?_
   rintro e wI ⟨rfl, hbI⟩
   simp only [HI1.out]
  ·have hb2W : Below W2.heap.size W2 wI := hb24.trans (hbI.mono hb24.size)
   have hmW : zg wI := hm4.below hbI
   have hfW := qo hb2W hn2 HF2.out
   have hcW := je hb2W hn2 HC2.out
   have d0 := hcW 0
   have d1 := hcW 1
   have d2 := hcW 2
   have d3 := hcW 3
   simp at d0 d1 d2 d3
   have HSW := zwe (HS.out.below hbI)
   have hzW : w3.heap.size < wI.heap.size := Nat.lt_of_lt_of_le hz34 hbI.size
   have hzW2 : w.heap.size + 1 < wI.heap.size := Nat.lt_of_lt_of_le hz24 hbI.size
   have hbW : Hid (Below w.heap.size w wI) := zwe (hb2.trans (hb2W.mono hb2.size))
   have HBW := zwe hbI
   clear hcW hb2W
   have HN : Hid (V.zq s.data.toList = none) := zwe (by rw [HP.out]; simp [HI1.out])
   go_wp2
   exact zwt
  ·cases E with
   | false =>
    have hb2W : Below W2.heap.size W2 wI := hb24.trans (hbI.mono hb24.size)
    have hmW : zg wI := hm4.below hbI
    have hfW := qo hb2W hn2 HF2.out
    have hcW := je hb2W hn2 HC2.out
    have d0 := hcW 0
    have d1 := hcW 1
    have d2 := hcW 2
    have d3 := hcW 3
    simp at d0 d1 d2 d3
    have HSW := zwe (HS.out.below hbI)
    have hzW : w3.heap.size < wI.heap.size := Nat.lt_of_lt_of_le hz34 hbI.size
    have hzW2 : w.heap.size + 1 < wI.heap.size := Nat.lt_of_lt_of_le hz24 hbI.size
    have hbW : Hid (Below w.heap.size w wI) := zwe (hb2.trans (hb2W.mono hb2.size))
    have HBW := zwe hbI
    clear hcW hb2W
    by_cases h3 : L.length = 3
    ·have hL3 := h3
     have hcs : ∀ j, j < 3 -> wI.cell? ⟨w3.heap.size, j, none⟩ = some (.string ⟨(L.getD j []).toArray⟩) := fun j hj => by
      exact zx0
     have HCS := zwe hcs
     have hln : Hid (∀ j, (L.getD j []).length ≤ v2.length) := zwe (fun j => by
       rcases Nat.lt_or_ge j L.length with h | h
       · rw [List.getD_eq_getElem?_getD, List.getElem?_eq_getElem h]; exact hl4.out _ (List.getElem_mem h)
       · rw [List.getD_eq_getElem?_getD, List.getElem?_eq_none h]; simp)
     clear hcs
     have HL3 := zwe hL3
     have hle : L.length ≤ 3 := by omega
     have hge : 3 ≤ L.length := by omega
     have hn3 : ((L.length : Int) != 3) = false := by rw [bne_eq_false_iff_eq]; omega
     clear hL3 h3
     go_wp2
     go_loop [50] (fun i => ∃ k : Nat, k ≤ 3 /\ i = .int .i64 k /\ ∀ j, j < k -> V.numb (L.getD j []) true = true) (fun i => 3 - (intOf i).toNat)
     case atStart => exact ⟨0, by omega, rfl, fun j hj => by omega⟩
     case round =>
      obtain ⟨k, hk, rfl, hz⟩ := hrel
      have HZ := zwe hz
      clear hz
      by_cases hlt : k < 3
      ·have hcell := HCS.out k hlt
       have hkl := hln.out k
       rcases hnb : V.numb (L.getD k []) true with _ | _
       all_goals
        have HNB := zwe hnb
        clear hnb
        generalize hx : L.getD k [] = x at *
        have HX := zwe hx
        clear hx
        have hlt2 : k < L.length := by omega
        go_wp2_with fail
        refine (vj ⟨x.toArray⟩ true _ (by show x.length ≤ _; unfold maxLen; omega)).mono ?_
        rintro e w' ⟨rfl, rfl⟩
        simp only [HNB.out]
        go_wp2
       ·have HN : Hid (V.zq s.data.toList = none) := zwe (by
          rw [HP.out, if_neg (by simp [HL3.out, HI1.out]), if_neg]
          intro e
          rw [List.all_eq_true] at e
          have h1 := e (L.getD k []) (by rw [List.getD_eq_getElem?_getD, List.getElem?_eq_getElem hlt2]; exact List.getElem_mem hlt2)
          rw [HX.out] at h1
          simp [HNB.out] at h1)
        exact zwt
       ·exact zx4
      ·have HALL : Hid (L.all (fun x => V.numb x true) = true) := zwe (by
         rw [List.all_eq_true]
         intro x hx
         obtain ⟨j, hj, e⟩ := List.getElem_of_mem hx
         have := HZ.out j (by omega)
         rw [List.getD_eq_getElem?_getD, List.getElem?_eq_getElem hj] at this
         rw [← e]; exact this)
       have e0 := HCS.out 0 (by omega)
       have e1 := HCS.out 1 (by omega)
       have e2 := HCS.out 2 (by omega)
       generalize hx0 : L.getD 0 [] = x0 at *
       generalize hx1 : L.getD 1 [] = x1 at *
       generalize hx2 : L.getD 2 [] = x2 at *
       have HX0 := zwe hx0
       have HX1 := zwe hx1
       have HX2 := zwe hx2
       clear hx0 hx1 hx2
       have g0 : 0 < L.length := by omega
       have g1 : 1 < L.length := by omega
       have g2 : 2 < L.length := by omega
       go_wp2
       go_region
       have HN : Hid (V.zq s.data.toList = some (L, [])) := zwe (by rw [HP.out, if_neg (by simp [HL3.out, HI1.out]), if_pos HALL.out]; rfl)
       go_wp2
       obtain ⟨q0, q1, q2, q3⟩ := set4 wI (w.heap.size + 1) _ _ _ _ (.string ⟨x0.toArray⟩) (.string ⟨x1.toArray⟩) (.string ⟨x2.toArray⟩) (.slice none 0 0) d0 d1 d2 d3
       exact zx8
    ·have hn3 : ((L.length : Int) != 3) = true := by rw [bne_iff_ne]; omega
     have HN : Hid (V.zq s.data.toList = none) := zwe (by rw [HP.out]; simp [h3, HI1.out])
     clear h3
     go_wp2
     exact zwt
   | true =>
    have hmX : zg wI := hm4.below hbI
    rcases hi2 : V.identifiers pr true with _ | _
    all_goals
     have HI2 := zwe hi2
     clear hi2
     go_wp2_with fail
     refine (za2 ⟨pr.toArray⟩ true _ (by show pr.length ≤ _; unfold maxLen; omega)).mono ?_
     rintro e w5 ⟨rfl, hb5⟩
     simp only [HI2.out]
     have hb45 : Below w4.heap.size w4 w5 := Below.trans hbI (hb5.mono (Below.size hbI))
     clear hb5
    ·have hb2W : Below W2.heap.size W2 w5 := hb24.trans (hb45.mono hb24.size)
     have hmW : zg w5 := hm4.below hb45
     have hfW := qo hb2W hn2 HF2.out
     have hcW := je hb2W hn2 HC2.out
     have d0 := hcW 0
     have d1 := hcW 1
     have d2 := hcW 2
     have d3 := hcW 3
     simp at d0 d1 d2 d3
     have HSW := zwe (HS.out.below hb45)
     have hzW : w3.heap.size < w5.heap.size := Nat.lt_of_lt_of_le hz34 hb45.size
     have hzW2 : w.heap.size + 1 < w5.heap.size := Nat.lt_of_lt_of_le hz24 hb45.size
     have hbW : Hid (Below w.heap.size w w5) := zwe (hb2.trans (hb2W.mono hb2.size))
     have HBW := zwe hb45
     clear hcW hb2W
     have HN : Hid (V.zq s.data.toList = none) := zwe (by rw [HP.out]; simp [HI1.out, HI2.out])
     go_wp2
     exact zwt
    ·have hb2W : Below W2.heap.size W2 w5 := hb24.trans (hb45.mono hb24.size)
     have hmW : zg w5 := hm4.below hb45
     have hfW := qo hb2W hn2 HF2.out
     have hcW := je hb2W hn2 HC2.out
     have d0 := hcW 0
     have d1 := hcW 1
     have d2 := hcW 2
     have d3 := hcW 3
     simp at d0 d1 d2 d3
     have HSW := zwe (HS.out.below hb45)
     have hzW : w3.heap.size < w5.heap.size := Nat.lt_of_lt_of_le hz34 hb45.size
     have hzW2 : w.heap.size + 1 < w5.heap.size := Nat.lt_of_lt_of_le hz24 hb45.size
     have hbW : Hid (Below w.heap.size w w5) := zwe (hb2.trans (hb2W.mono hb2.size))
     have HBW := zwe hb45
     clear hcW hb2W
     by_cases h3 : L.length = 3
     ·have hL3 := h3
      have hcs : ∀ j, j < 3 -> w5.cell? ⟨w3.heap.size, j, none⟩ = some (.string ⟨(L.getD j []).toArray⟩) := fun j hj => by
       exact zx0
      have HCS := zwe hcs
      have hln : Hid (∀ j, (L.getD j []).length ≤ v2.length) := zwe (fun j => by
        rcases Nat.lt_or_ge j L.length with h | h
        · rw [List.getD_eq_getElem?_getD, List.getElem?_eq_getElem h]; exact hl4.out _ (List.getElem_mem h)
        · rw [List.getD_eq_getElem?_getD, List.getElem?_eq_none h]; simp)
      clear hcs
      have HL3 := zwe hL3
      have hle : L.length ≤ 3 := by omega
      have hge : 3 ≤ L.length := by omega
      have hn3 : ((L.length : Int) != 3) = false := by rw [bne_eq_false_iff_eq]; omega
      clear hL3 h3
      go_wp2
      go_loop [50] (fun i => ∃ k : Nat, k ≤ 3 /\ i = .int .i64 k /\ ∀ j, j < k -> V.numb (L.getD j []) true = true) (fun i => 3 - (intOf i).toNat)
      case atStart => exact ⟨0, by omega, rfl, fun j hj => by omega⟩
      case round =>
       obtain ⟨k, hk, rfl, hz⟩ := hrel
       have HZ := zwe hz
       clear hz
       by_cases hlt : k < 3
       ·have hcell := HCS.out k hlt
        have hkl := hln.out k
        rcases hnb : V.numb (L.getD k []) true with _ | _
        all_goals
         have HNB := zwe hnb
         clear hnb
         generalize hx : L.getD k [] = x at *
         have HX := zwe hx
         clear hx
         have hlt2 : k < L.length := by omega
         go_wp2_with fail
         refine (vj ⟨x.toArray⟩ true _ (by show x.length ≤ _; unfold maxLen; omega)).mono ?_
         rintro e w' ⟨rfl, rfl⟩
         simp only [HNB.out]
         go_wp2
        ·have HN : Hid (V.zq s.data.toList = none) := zwe (by
           rw [HP.out, if_neg (by simp [HL3.out, HI1.out, HI2.out]), if_neg]
           intro e
           rw [List.all_eq_true] at e
           have h1 := e (L.getD k []) (by rw [List.getD_eq_getElem?_getD, List.getElem?_eq_getElem hlt2]; exact List.getElem_mem hlt2)
           rw [HX.out] at h1
           simp [HNB.out] at h1)
         exact zwt
        ·exact zx4
       ·have HALL : Hid (L.all (fun x => V.numb x true) = true) := zwe (by
          rw [List.all_eq_true]
          intro x hx
          obtain ⟨j, hj, e⟩ := List.getElem_of_mem hx
          have := HZ.out j (by omega)
          rw [List.getD_eq_getElem?_getD, List.getElem?_eq_getElem hj] at this
          rw [← e]; exact this)
        have e0 := HCS.out 0 (by omega)
        have e1 := HCS.out 1 (by omega)
        have e2 := HCS.out 2 (by omega)
        generalize hx0 : L.getD 0 [] = x0 at *
        generalize hx1 : L.getD 1 [] = x1 at *
        generalize hx2 : L.getD 2 [] = x2 at *
        have HX0 := zwe hx0
        have HX1 := zwe hx1
        have HX2 := zwe hx2
        clear hx0 hx1 hx2
        have g0 : 0 < L.length := by omega
        have g1 : 1 < L.length := by omega
        have g2 : 2 < L.length := by omega
        go_wp2
        go_region
        have HN : Hid (V.zq s.data.toList = some (L, V.zd 46 pr)) := zwe (by rw [HP.out, if_neg (by simp [HL3.out, HI1.out, HI2.out]), if_pos HALL.out]; rfl)
        exact zwp
     ·have hn3 : ((L.length : Int) != 3) = true := by rw [bne_iff_ne]; omega
      have HN : Hid (V.zq s.data.toList = none) := zwe (by rw [HP.out]; simp [h3, HI1.out, HI2.out])
      clear h3
      go_wp2
      exact zwt
theorem zpj {r : Option (List V.Bs × List V.Bs)} {w : World} {e : Ending} {w' : World} (h : zju r w e w') (hr : r = none) :
  e = .returned (.tuple #[.agg #[.string ⟨#[]⟩, .string ⟨#[]⟩, .string ⟨#[]⟩, .slice none 0 0], .bool false]) /\ Below w.heap.size w w' := by
 subst hr; exact ⟨h.2, h.1⟩
theorem zgl {r : Option (List V.Bs × List V.Bs)} {l pre : List V.Bs} {w : World} {e : Ending} {w' : World} (h : zju r w e w') (hr : r = some (l, pre)) :
  ∃ pv, e = .returned (.tuple #[.agg #[.string ⟨(l.getD 0 []).toArray⟩, .string ⟨(l.getD 1 []).toArray⟩, .string ⟨(l.getD 2 []).toArray⟩, pv], .bool true]) /\ Strs w' pv pre /\ Below w.heap.size w w' := by
 subst hr; obtain ⟨h1, pv, h2, h3⟩ := h; exact ⟨pv, h3, h2, h1⟩
theorem zz1 {P : Prop} (h : P := by
 have HB1 := zwf HB0 hb1
 clear h hb1
 go_wp2
 go_ret
 refine ⟨zc rfl, ?_⟩
 exact (HB1.out.alloc HB1.out.size _)) : P := h
theorem zpc (s : ByteArray) (w : World) (hm : zg w) (hs : s.size ≤ 1000) :
  Calls Tryz.prog 209 #[.agg #[], .string s] w fun e w' => e = .returned (.bool (V.zq s.data.toList).isSome) /\ Below w.heap.size w w' := by
 have hb0 : Below w.heap.size w (w.alloc (.cells #[] 183)) := (zwh _ w).alloc (zwg _) _
 have hm0 := hm.below hb0
 rcases hp : V.zq s.data.toList with _ | ⟨l, pre⟩
 ·have HP := zwe hp
  have HB0 := zwe hb0
  clear hp hb0
  go_enter Tryz.func209, Tryz.ntmps209
  go_wp2_with fail
  refine (zbl s _ hm0 hs).mono ?_
  rintro e w1 h
  obtain ⟨rfl, hb1⟩ := zpj h HP.out
  exact zz1
 ·have HP := zwe hp
  have HB0 := zwe hb0
  clear hp hb0
  go_enter Tryz.func209, Tryz.ntmps209
  go_wp2_with fail
  refine (zbl s _ hm0 hs).mono ?_
  rintro e w1 h
  obtain ⟨pv, rfl, hpv, hb1⟩ := zgl h HP.out
  obtain ⟨a, cap, rfl, hc⟩ := hpv
  have HB1 := zwf HB0 hb1
  clear h hb1 hc
  go_wp2
  go_ret
  refine ⟨zc rfl, ?_⟩
  exact (HB1.out.alloc HB1.out.size _)
theorem kg {l : List V.Bs} {k : Nat} (h : k < l.length) : l.getD k [] = l[k] := by simp [List.getD, List.getElem?_eq_getElem h]
open Go.RowKit
theorem z1s {P : Prop} (h : P := by
 intro j hj
 rw [World.cell?_alloc_new]
 have : j = 0 ∨ j = 1 := by simp at hj; omega
 rcases this with rfl | rfl <;> rfl) : P := h
theorem zap (s t : ByteArray) (w : World) :
  Calls Tryz.prog 211 #[.string s, .string t] w fun e w' => e = .returned (.int .i64 (V.numbers s.data.toList t.data.toList)) /\ Below w.heap.size w w' := by
 have HF : Hid (V.numbers s.data.toList t.data.toList = V.orI [Lib.compareInt (V.value s.data.toList).length (V.value t.data.toList).length, Lib.compareBytes (V.value s.data.toList) (V.value t.data.toList)]) := zwe (by
   unfold V.numbers V.orI V.orI V.orI V.cor; split <;> simp)
 go_enter Tryz.func211, Tryz.ntmps211
 go_wp2_with fail
 refine (zh0 s _).mono ?_
 rintro e w' ⟨rfl, rfl⟩
 go_wp2_with fail
 refine (zh0 t _).mono ?_
 rintro e w' ⟨rfl, rfl⟩
 generalize V.value s.data.toList = x at *
 generalize V.value t.data.toList = y at *
 go_wp2_with fail
 refine (Tryz.cmp_Compare_int _ _ _).mono ?_
 rintro e w' ⟨rfl, rfl⟩
 go_wp2_with fail
 refine (Tryz.strings_Compare _ _ _).mono ?_
 rintro e w' ⟨rfl, rfl⟩
 go_wp2_with fail
 generalize Lib.compareInt _ _ = p at *
 generalize Lib.compareBytes _ _ = q at *
 refine (zpm _ [p, q] _ (by simp) ?_).mono ?_
 ·exact z1s
 rintro e w' ⟨rfl, rfl⟩
 go_wp2
 go_ret
 exact ⟨zp HF.out.symm, (zwh _ _).alloc (zwg _) _⟩
theorem zkn (s t : ByteArray) (w : World) (hs : s.size ≤ maxLen) (ht : t.size ≤ maxLen) :
  Calls Tryz.prog 213 #[.string s, .string t] w fun e w' => e = .returned (.int .i64 (V.kl s.data.toList t.data.toList)) /\ Below w.heap.size w w' := by
 have HF : Hid (V.kl s.data.toList t.data.toList = if V.digits s.data.toList && V.digits t.data.toList then V.numbers s.data.toList t.data.toList else if V.digits s.data.toList then -1 else if V.digits t.data.toList then 1 else Lib.compareBytes s.data.toList t.data.toList) := rfl
 rcases hx : V.digits s.data.toList with _ | _ <;> rcases hy : V.digits t.data.toList with _ | _
 all_goals
  have HX := zwe hx
  have HY := zwe hy
  clear hx hy
  rw [HX.out, HY.out] at HF
  go_enter Tryz.func213, Tryz.ntmps213
  go_wp2_with fail
  refine (yx s _ hs).mono ?_
  rintro e w' ⟨rfl, rfl⟩
  simp only [HX.out]
  go_wp2_with fail
  refine (yx t _ ht).mono ?_
  rintro e w' ⟨rfl, rfl⟩
  simp only [HY.out]
  go_wp2_with fail
 ·refine (Tryz.strings_Compare _ _ _).mono ?_
  rintro e w' ⟨rfl, rfl⟩
  go_wp2
  go_ret
  exact ⟨zp HF.out.symm, zwh _ _⟩
 ·go_ret
  exact ⟨zp HF.out.symm, zwh _ _⟩
 ·go_ret
  exact ⟨zp HF.out.symm, zwh _ _⟩
 ·refine (zap _ _ _).mono ?_
  rintro e w' ⟨rfl, hb⟩
  go_wp2
  go_ret
  exact ⟨zp HF.out.symm, hb⟩
theorem za9 {f : V.Bs -> V.Bs -> Int} : ∀ (k : Nat) (l1 l2 : List V.Bs), k ≤ l1.length -> k ≤ l2.length -> (∀ j, j < k -> f (l1.getD j []) (l2.getD j []) = 0) -> V.ji f l1 l2 = V.ji f (l1.drop k) (l2.drop k)
 | 0, _, _, _, _, _ => rfl
 | k + 1, [], _, h, _, _ => by simp at h
 | k + 1, _ :: _, [], _, h, _ => by simp at h
 | k + 1, a :: l1, b :: l2, h1, h2, h => by
  have h0 : f a b = 0 := h 0 (by omega)
  rw [V.ji, h0]
  exact za9 k l1 l2 (by simpa using h1) (by simpa using h2) (fun j hj => h (j + 1) (by omega))
theorem zi3 {f : V.Bs -> V.Bs -> Int} (k : Nat) (l1 l2 : List V.Bs) (h1 : k < l1.length) (h2 : k < l2.length) (h : ∀ j, j < k -> f (l1.getD j []) (l2.getD j []) = 0) (h0 : f (l1.getD k []) (l2.getD k []) ≠ 0) :
  V.ji f l1 l2 = f (l1.getD k []) (l2.getD k []) := by
 rw [za9 k l1 l2 (by omega) (by omega) h, List.drop_eq_getElem_cons h1, List.drop_eq_getElem_cons h2]
 have e1 : l1.getD k [] = l1[k] := by simp [List.getD, List.getElem?_eq_getElem h1]
 have e2 : l2.getD k [] = l2[k] := by simp [List.getD, List.getElem?_eq_getElem h2]
 rw [e1, e2] at h0 ⊢
 rw [V.ji, V.kk h0]
theorem zgk {f : V.Bs -> V.Bs -> Int} (k : Nat) (l1 l2 : List V.Bs) (h1 : k < l1.length) (h2 : l2.length = k) (h : ∀ j, j < k -> f (l1.getD j []) (l2.getD j []) = 0) : V.ji f l1 l2 = 1 := by
 rw [za9 k l1 l2 (by omega) (by omega) h, List.drop_eq_getElem_cons h1, List.drop_of_length_le (l := l2) (by omega)]; rfl
theorem zfs {f : V.Bs -> V.Bs -> Int} (k : Nat) (l1 l2 : List V.Bs) (h1 : l1.length = k) (h2 : k ≤ l2.length) (h : ∀ j, j < k -> f (l1.getD j []) (l2.getD j []) = 0) : V.ji f l1 l2 = if k < l2.length then -1 else 0 := by
 rw [za9 k l1 l2 (by omega) (by omega) h, List.drop_of_length_le (by omega)]
 by_cases hlt : k < l2.length
 ·rw [List.drop_eq_getElem_cons hlt, if_pos hlt]; rfl
 ·rw [List.drop_of_length_le (by omega), if_neg hlt]; rfl
theorem zds (v1 v2 : Value) (l1 l2 : List V.Bs) (K : Nat) (cap : Array Value) (f : V.Bs -> V.Bs -> Int) (w : World) (h1 : Strs w v1 l1) (h2 : Strs w v2 l2)
  (n1 : l1.length ≤ 2000) (_n2 : l2.length ≤ 2000) (m1 : ∀ x ∈ l1, x.length ≤ 1000) (m2 : ∀ x ∈ l2, x.length ≤ 1000)
  (eg : ∀ args w, (callFunc K args).run Tryz.prog w = .ok (.enter K args) w)
  (hK : ∀ (a b : V.Bs) W, a.length ≤ 1000 -> b.length ≤ 1000 -> Calls Tryz.prog K (#[.string ⟨a.toArray⟩, .string ⟨b.toArray⟩] ++ cap) W fun e w' => e = .returned (.int .i64 (f a b)) /\ Below W.heap.size W w') :
  Calls Tryz.prog 212 #[v1, v2, .func (.func K) #[] cap] w fun e w' => e = .returned (.int .i64 (V.ji f l1 l2)) /\ Below w.heap.size w w' := by
 obtain ⟨a1, c1, rfl, hc1⟩ := h1
 obtain ⟨a2, c2, rfl, hc2⟩ := h2
 have HK := zwe hK
 have HC1 := zwe hc1
 have HC2 := zwe hc2
 have M1 := zwe m1
 have M2 := zwe m2
 clear hK hc1 hc2 m1 m2
 go_enter Tryz.func212, Tryz.ntmps212
 go_wp2
 go_loopw [13] (fun i wr => ∃ k : Nat, k ≤ l1.length /\ k ≤ l2.length /\ i = .int .i64 k /\ (∀ j, j < k -> f (l1.getD j []) (l2.getD j []) = 0) /\ Below w.heap.size w wr) (fun i _ => l1.length - (intOf i).toNat)
 case atStart => exact ⟨0, Nat.zero_le _, Nat.zero_le _, rfl, fun j hj => by omega, zwh _ _⟩
 case round =>
  obtain ⟨k, hk1, hk2, rfl, hz, hB⟩ := hrel
  have HZ := zwe hz
  have HB := zwe hB
  clear hz hB
  by_cases hlt1 : k < l1.length
  ·obtain ⟨b1, o1, ha1, hb1, hcell1⟩ := HC1.out k hlt1
   have hx1 := (HB.out.cell (p := ⟨b1, o1 + k, none⟩) hb1).trans hcell1
   rw [← kg hlt1] at hx1
   by_cases hlt2 : k < l2.length
   ·obtain ⟨b2, o2, ha2, hb2, hcell2⟩ := HC2.out k hlt2
    have hx2 := (HB.out.cell (p := ⟨b2, o2 + k, none⟩) hb2).trans hcell2
    rw [← kg hlt2] at hx2
    have s1 := M1.out _ (List.getElem_mem hlt1)
    have s2 := M2.out _ (List.getElem_mem hlt2)
    rw [← kg hlt1] at s1
    rw [← kg hlt2] at s2
    have HIT := zwe (zi3 k l1 l2 hlt1 hlt2 HZ.out)
    have NEXT : Hid (f (l1.getD k []) (l2.getD k []) = 0 -> ∀ j, j < k + 1 -> f (l1.getD j []) (l2.getD j []) = 0) := zwe (fun h0 j hj => by
      by_cases e : j = k
      · subst e; exact h0
      · exact HZ.out j (by omega))
    subst ha1
    subst ha2
    clear hcell1 hcell2
    generalize l1.getD k [] = x at *
    generalize l2.getD k [] = y at *
    go_wp2_with fail
    refine (HK.out x y _ s1 s2).mono ?_
    rintro e w1 ⟨rfl, hb⟩
    have HB1 := zwf HB hb
    clear hb
    by_cases h0 : f x y = 0
    ·have HN := zwe (NEXT.out h0)
     rw [h0]
     clear h0
     go_wp2
     go_roundw
     case rel => exact ⟨k + 1, by omega, by omega, by go_num, HN.out, HB1.out⟩
     case measure => simp [intOf]; omega
    ·have HN := zwe (HIT.out h0)
     have hb : (f x y != 0) = true := by simpa using h0
     generalize f x y = c at *
     clear h0
     go_wp2
     go_ret
     exact ⟨zp HN.out.symm, HB1.out⟩
   ·have HN := zwe (zgk k l1 l2 hlt1 (by omega) HZ.out)
    subst ha1
    clear hcell1
    go_wp2
    go_ret
    exact ⟨zp HN.out.symm, HB.out⟩
  ·have HN := zwe (zfs k l1 l2 (by omega) hk2 HZ.out)
   by_cases hlt2 : k < l2.length
   ·rw [if_pos hlt2] at HN
    go_wp2
    go_ret
    exact ⟨zp HN.out.symm, HB.out⟩
   ·rw [if_neg hlt2] at HN
    go_wp2
    go_ret
    exact ⟨zp HN.out.symm, HB.out⟩
open Go.RowKit
theorem zl4 (a b : V.Bs) (W : World) (ha : a.length ≤ 1000) (hb : b.length ≤ 1000) : Calls Tryz.prog 213 (#[.string ⟨a.toArray⟩, .string ⟨b.toArray⟩] ++ #[]) W fun e w' => e = .returned (.int .i64 (V.kl a b)) /\ Below W.heap.size W w' := by
 have h := zkn ⟨a.toArray⟩ ⟨b.toArray⟩ W (by show a.length ≤ _; unfold maxLen; omega) (by show b.length ≤ _; unfold maxLen; omega)
 simp only  at h
 exact h
theorem zln (w : World) (a b c : Int) (t : TypeId) : ∀ j, j < [a, b, c].length -> (w.alloc (.cells #[.int .i64 a, .int .i64 b, .int .i64 c] t)).cell? ⟨w.heap.size, j, none⟩ = some (.int .i64 ([a, b, c].getD j 0)) := by
 intro j hj
 rw [World.cell?_alloc_new]
 have : j = 0 ∨ j = 1 ∨ j = 2 := by simp at hj; omega
 rcases this with rfl | rfl | rfl <;> rfl
theorem za8 {s : V.Bs} {l pre : List V.Bs} (h : V.zq s = some (l, pre)) : pre.length ≤ s.length + 1 /\ ∀ x ∈ pre, x.length ≤ s.length := by
 unfold V.zq at h
 split at h
 ·cases h
 ·split at h
  ·simp only [Option.some.injEq, Prod.mk.injEq] at h
   obtain ⟨_, h⟩ := h
   have h1 := uo 43 s
   have h2 := uo 45 (V.cut1 43 s).1
   have h3 := jn 46 (V.cut1 45 (V.cut1 43 s).1).2.1
   split at h
   ·subst h
    exact ⟨by omega, fun x hx => by have := kd 46 _ x hx; omega⟩
   ·subst h; simp
  ·cases h
theorem zew {W W' : World} {b o : Nat} {v : Value} (hb : Below W.heap.size W W') (h : W.cell? ⟨b, o, none⟩ = some v) : W'.cell? ⟨b, o, none⟩ = some v :=
 (hb.cell (p := ⟨b, o, none⟩) (World.block_lt_of_cell? _ _ h)).trans h
theorem zme {r : Option (List V.Bs × List V.Bs)} {l pre : List V.Bs} {x0 x1 x2 : V.Bs} {w : World} {e : Ending} {w' : World} (h : zju r w e w') (hr : r = some (l, pre)) (h0 : l.getD 0 [] = x0) (h1 : l.getD 1 [] = x1) (h2 : l.getD 2 [] = x2) :
  ∃ a cap, e = .returned (.tuple #[.agg #[.string ⟨x0.toArray⟩, .string ⟨x1.toArray⟩, .string ⟨x2.toArray⟩, .slice a pre.length cap], .bool true]) /\ Strs w' (.slice a pre.length cap) pre /\ Below w.heap.size w w' := by
 subst h0 h1 h2
 obtain ⟨pv, rfl, hpv, hb⟩ := zgl h hr
 have hpv' := hpv
 obtain ⟨a, cap, rfl, hc⟩ := hpv
 exact ⟨a, cap, rfl, hpv', hb⟩
theorem z02 {P : Prop} (h : P := by
 go_wp2_with fail
 refine (Tryz.cmp_Compare_int _ _ _).mono ?_
 rintro e wz ⟨rfl, rfl⟩
 go_wp2
 go_ret
 exact ⟨zp HF3.out.symm, HB4.out⟩) : P := h
theorem zkc (s t : ByteArray) (la pa lb pb : List V.Bs) (w : World) (hm : zg w) (hs : s.size ≤ 1000) (ht : t.size ≤ 1000)
  (hp : V.zq s.data.toList = some (la, pa)) (hq : V.zq t.data.toList = some (lb, pb)) :
  Calls Tryz.prog 207 #[.agg #[], .string s, .string t] w fun e w' => e = .returned (.int .i64 (V.js (la, pa) (lb, pb))) /\ Below w.heap.size w w' := by
 obtain ⟨x0, hx0⟩ : ∃ x, la.getD 0 [] = x := ⟨_, rfl⟩
 obtain ⟨x1, hx1⟩ : ∃ x, la.getD 1 [] = x := ⟨_, rfl⟩
 obtain ⟨x2, hx2⟩ : ∃ x, la.getD 2 [] = x := ⟨_, rfl⟩
 obtain ⟨y0, hy0⟩ : ∃ x, lb.getD 0 [] = x := ⟨_, rfl⟩
 obtain ⟨y1, hy1⟩ : ∃ x, lb.getD 1 [] = x := ⟨_, rfl⟩
 obtain ⟨y2, hy2⟩ : ∃ x, lb.getD 2 [] = x := ⟨_, rfl⟩
 have HF : Hid (V.js (la, pa) (lb, pb) = V.cor (V.orI [V.numbers x0 y0, V.numbers x1 y1, V.numbers x2 y2]) (V.zdo pa pb)) := zwe (by
   unfold V.js; simp only [hx0, hx1, hx2, hy0, hy1, hy2])
 have hb0 : Below w.heap.size w (w.alloc (.cells #[] 183)) := (zwh _ w).alloc (zwg _) _
 have hm0 := hm.below hb0
 have HP := zwe hp
 have HQ := zwe hq
 have HB0 := zwe hb0
 have HX0 := zwe hx0
 have HX1 := zwe hx1
 have HX2 := zwe hx2
 have HY0 := zwe hy0
 have HY1 := zwe hy1
 have HY2 := zwe hy2
 clear hp hq hb0 hx0 hx1 hx2 hy0 hy1 hy2
 go_enter Tryz.func207, Tryz.ntmps207
 go_wp2_with fail
 refine (zbl s _ hm0 hs).mono ?_
 rintro e w1 h
 obtain ⟨a, cap, rfl, hsa, hb1⟩ := zme h HP.out HX0.out HX1.out HX2.out
 have hB1 := HB0.out.trans (hb1.mono HB0.out.size)
 have HB1 := zwe hB1
 have hm1 := hm.below hB1
 have HSA := zwe hsa
 clear h hb1 hsa hB1
 go_wp2_with fail
 have hbc : Below w1.heap.size w1 (w1.alloc (.cells #[.string ⟨x0.toArray⟩, .string ⟨x1.toArray⟩, .string ⟨x2.toArray⟩, .slice a pa.length cap] 226)) := (zwh _ _).alloc (zwg _) _
 refine (zbl t _ (hm1.below hbc) ht).mono ?_
 rintro e w2 h
 obtain ⟨a2, cap2, rfl, hsb, hb2⟩ := zme h HQ.out HY0.out HY1.out HY2.out
 have hc2 : ∀ i, w2.cell? ⟨w1.heap.size, i, none⟩ = #[Value.string ⟨x0.toArray⟩, .string ⟨x1.toArray⟩, .string ⟨x2.toArray⟩, .slice a pa.length cap][i]? := je hb2 (by simp) (fun i => by rw [ze, if_pos rfl])
 have hB2 := hbc.trans (hb2.mono hbc.size)
 have hz2 : w1.heap.size < w2.heap.size := Nat.lt_of_lt_of_le (by simp) hb2.size
 have HSA2 := zwe (HSA.out.below hB2)
 have HSB2 := zwe hsb
 have HB2 := zwf HB1 hB2
 clear h hb2 hsb hbc hB2 HSA
 go_wp2_with fail
 obtain ⟨W3, hW3⟩ : ∃ W3, W3 = w2.alloc (.cells #[.string ⟨y0.toArray⟩, .string ⟨y1.toArray⟩, .string ⟨y2.toArray⟩, .slice a2 pb.length cap2] 226) := ⟨_, rfl⟩
 rw [← hW3]
 have hb3 : Below w2.heap.size w2 W3 := by rw [hW3]; exact (zwh _ _).alloc (zwg _) _
 have e : ∀ i, W3.cell? ⟨w1.heap.size, i, none⟩ = #[Value.string ⟨x0.toArray⟩, .string ⟨x1.toArray⟩, .string ⟨x2.toArray⟩, .slice a pa.length cap][i]? := je hb3 hz2 hc2
 have g : ∀ i, W3.cell? ⟨w2.heap.size, i, none⟩ = #[Value.string ⟨y0.toArray⟩, .string ⟨y1.toArray⟩, .string ⟨y2.toArray⟩, .slice a2 pb.length cap2][i]? := fun i => by rw [hW3, ze, if_pos rfl]
 have e0 := e 0
 have e1 := e 1
 have e2 := e 2
 have e3 := e 3
 have g0 := g 0
 have g1 := g 1
 have g2 := g 2
 have g3 := g 3
 simp at e0 e1 e2 e3 g0 g1 g2 g3
 have HSA3 := zwe (HSA2.out.below hb3)
 have HSB3 := zwe (HSB2.out.below hb3)
 have HB3 := zwf HB2 hb3
 have hz3 : w2.heap.size < W3.heap.size := by rw [hW3]; simp
 have hz4 : w1.heap.size < W3.heap.size := by omega
 clear hW3 hb3 e g hc2 hm0 hm1 HSA2 HSB2 HB1 HB2 HB0
 go_region_held3 (fun W' => (W'.cell? ⟨w1.heap.size, 0, none⟩ = some (.string ⟨x0.toArray⟩) /\ W'.cell? ⟨w1.heap.size, 1, none⟩ = some (.string ⟨x1.toArray⟩) /\ W'.cell? ⟨w1.heap.size, 2, none⟩ = some (.string ⟨x2.toArray⟩) /\
     W'.cell? ⟨w2.heap.size, 0, none⟩ = some (.string ⟨y0.toArray⟩) /\ W'.cell? ⟨w2.heap.size, 1, none⟩ = some (.string ⟨y1.toArray⟩) /\ W'.cell? ⟨w2.heap.size, 2, none⟩ = some (.string ⟨y2.toArray⟩)))
  (first
    | go_keep
    | (go_split_ands
       refine ⟨?_, ?_, ?_, ?_, ?_, ?_⟩ <;> (refine zew hbq ?_; first | assumption | (simp only [World.cell?_drew]; assumption))))
  (first
    | (go_at_call 211; refine (zap _ _ _).mono ?_; rintro e wq ⟨rfl, hbq⟩)
    | (go_at_call 87; refine (zpm _ [V.numbers x0 y0, V.numbers x1 y1, V.numbers x2 y2] _ (by simp) (zln _ _ _ _ _)).mono ?_; rintro e wq ⟨rfl, rfl⟩))
 rename_i wa hba wb hbb hS
 have hbx : Below W3.heap.size W3 wq := ((zwh W3.heap.size W3).drew).trans (Below.trans (show Below W3.heap.size W3.drew wa from hba) ((hbb.trans (hbq.mono hbb.size)).mono hba.size))
 obtain ⟨W4, hW4⟩ : ∃ W4, W4 = wq.alloc (.cells #[.int .i64 (V.numbers x0 y0), .int .i64 (V.numbers x1 y1), .int .i64 (V.numbers x2 y2)] 3) := ⟨_, rfl⟩
 rw [← hW4]
 have hb4 : Below W3.heap.size W3 W4 := hbx.trans (by rw [hW4]; exact ((zwh wq.heap.size wq).alloc (zwg _) _).mono hbx.size)
 clear hba hbb hbq hbx hW4 hS
 have k3 := zew hb4 e3
 have j3 := zew hb4 g3
 have HSA4 := zwe (HSA3.out.below hb4)
 have HSB4 := zwe (HSB3.out.below hb4)
 have HB4 := zwf HB3 hb4
 clear e0 e1 e2 e3 g0 g1 g2 g3 hb4 HSA3 HSB3 HB3 hz2 hz3 hz4
 by_cases h0 : V.orI [V.numbers x0 y0, V.numbers x1 y1, V.numbers x2 y2] = 0
 ·have HF2 : Hid (V.js (la, pa) (lb, pb) = V.zdo pa pb) := zwe (by rw [HF.out, h0]; rfl)
  rw [h0]
  clear h0
  have hP : Hid (V.zdo pa pb = if pa.isEmpty || pb.isEmpty then Lib.compareInt pb.length pa.length else V.ji V.kl pa pb) := rfl
  by_cases hpa : pa.length = 0
  ·have HF3 : Hid (V.js (la, pa) (lb, pb) = Lib.compareInt pb.length pa.length) := zwe (by
     rw [HF2.out, hP.out, if_pos]; rw [List.eq_nil_of_length_eq_zero hpa]; rfl)
   have hbo : ((pa.length : Int) == 0) = true := by rw [hpa]; rfl
   clear hpa
   exact z02
  ·have hbo : ((pa.length : Int) == 0) = false := by rw [zwi]; omega
   by_cases hpb : pb.length = 0
   ·have HF3 : Hid (V.js (la, pa) (lb, pb) = Lib.compareInt pb.length pa.length) := zwe (by
      rw [HF2.out, hP.out, if_pos]; rw [List.eq_nil_of_length_eq_zero hpb]; simp)
    have hbo2 : ((pb.length : Int) == 0) = true := by rw [hpb]; rfl
    clear hpa hpb
    exact z02
   ·have hbo2 : ((pb.length : Int) == 0) = false := by rw [zwi]; omega
    have HF3 : Hid (V.js (la, pa) (lb, pb) = V.ji V.kl pa pb) := zwe (by
      rw [HF2.out, hP.out, if_neg]
      cases pa <;> cases pb <;> simp at hpa hpb ⊢)
    clear hpa hpb
    go_wp2_with fail
    refine (zds _ _ pa pb 213 #[] V.kl _ HSA4.out HSB4.out ?_ ?_ ?_ ?_ (enters_of Tryz.func213 (by kernel_rfl) rfl) (fun x y W hx hy => zl4 x y W hx hy)).mono ?_
    ·have := za8 HP.out; rw [zf] at this; omega
    ·have := za8 HQ.out; rw [zf] at this; omega
    ·intro x hx; have := (za8 HP.out).2 x hx; rw [zf] at this; omega
    ·intro x hx; have := (za8 HQ.out).2 x hx; rw [zf] at this; omega
    rintro e wz ⟨rfl, hbz⟩
    have HB5 := zwf HB4 hbz
    clear hbz
    go_wp2
    go_ret
    exact ⟨zp HF3.out.symm, HB5.out⟩
 ·have HF2 : Hid (V.js (la, pa) (lb, pb) = V.orI [V.numbers x0 y0, V.numbers x1 y1, V.numbers x2 y2]) := zwe (by rw [HF.out, V.kk h0])
  have hb : (V.orI [V.numbers x0 y0, V.numbers x1 y1, V.numbers x2 y2] != 0) = true := by simpa using h0
  generalize V.orI [V.numbers x0 y0, V.numbers x1 y1, V.numbers x2 y2] = c at *
  clear h0
  go_wp2
  go_ret
  exact ⟨zp HF2.out.symm, HB4.out⟩
end Go.Proofs.YtcfbkcapbbhmpaaGreatDoor
