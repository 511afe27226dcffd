/-
  Lemmas for the law.
-/
import Derived.Test.YtbikeahmldobkaaGreatDoorC42x12
import Derived.Test.YtbikeahmldobkaaGreatDoorC42x01
import Derived.Test.YtbikeahmldobkaaGreatDoorC42x07
import Derived.Test.YtbikeahmldobkaaGreatDoorC42x10
import Derived.Test.YtbikeahmldobkaaGreatDoorC42x13
import Derived.Deep.DeepCutAuto
import Derived.BigRegion
import Derived.OwnWalk
import Derived.StillTailTactics
set_option linter.all false
set_option maxRecDepth 100000
set_option maxHeartbeats 3200000
namespace Go.Proofs.YtbikeahmldobkaaGreatDoor
open Go.RowKit
def RSem (r : Option (List V.Bs × List V.Bs)) (w : World) (e : Ending) (w' : World) : Prop :=
 Below w.heap.size w w' /\ match r with
 | none => e = .returned (.tuple #[.slice none 0 0, .slice none 0 0, .bool false])
 | some (l, ids) => ∃ v u, e = .returned (.tuple #[v, u, .bool true]) /\ Strs w' v l /\ Strs w' u ids
theorem zeq (x : V.Bs) : V.ke false x = V.only (V.kind [45]) x := by
 unfold V.ke V.numb
 rcases V.digits x with _ | _ <;> simp
theorem ue {w w4 : World} {l : List V.Bs} {t : Nat} (h : w4 = w.alloc (.cells (xm l) t)) (j : Nat) (hj : j < l.length) : w4.cell? ⟨w.heap.size, j, none⟩ = some (.string ⟨l[j].toArray⟩) := by
 rw [h, World.cell?_alloc_new, wg l j hj]
theorem zob {α : Type} {l : List α} {p : α -> Bool} {k : Nat} (h : k < l.length) (hp : p l[k] = false) : l.all p = false := by
 rw [List.all_eq_false]
 exact ⟨l[k], List.getElem_mem h, by simp [hp]⟩
theorem zdw {α : Type} {l : List α} {p : α -> Bool} {k : Nat} (h : k < l.length) : (l.take (k + 1)).all p = ((l.take k).all p && p l[k]) := by
 rw [List.take_succ_eq_append_getElem h, List.all_append]; simp
theorem zyn {P : Prop} (h : P := by
 go_ret3
 have HN : Hid (V.zo s.data.toList = none) := zv2 (by
   rw [HP.out, HI.out, zob (k := k) hlt (by rw [HK.out]; rfl)]; simp)
 rw [HN.out]
 exact ⟨HB4.out, rfl⟩) : P := h
theorem zzf {P : Prop} (h : P := by
 go_round
 case rel => exact ⟨k + 1, by omega, by go_num, by rw [HT.out, HQ.out, HK.out]; rfl⟩
 case measure => simp [intOf]; omega) : P := h
theorem zdh (s : ByteArray) (w : World) (hm : zk w) (hs : s.size ≤ 1000) :
  Calls Tryz.prog 85 #[.string s] w (RSem (V.zo s.data.toList) w) := by
 obtain ⟨v1, bu, B, g6⟩ : ∃ a b c, V.cut1 43 s.data.toList = (a, b, c) := ⟨_, _, _, rfl⟩
 obtain ⟨v2, pr, E, g7⟩ : ∃ a b c, V.cut1 45 v1 = (a, b, c) := ⟨_, _, _, rfl⟩
 obtain ⟨L, hL⟩ : ∃ L, V.zm 46 v2 = L := ⟨_, rfl⟩
 have HP : Hid (V.zo s.data.toList = if (B && !V.identifiers bu false) || (E && !V.identifiers pr true) || L.length != 3 then none else if L.all (fun x => V.numb x true) then some (L, if E then V.zm 46 pr else []) else none) := zv2 (by
   unfold V.zo
   rw [g6]
   simp only
   rw [g7]
   simp only
   rw [hL])
 have hl1 : v1.length ≤ s.size /\ bu.length ≤ s.size := by
  have := yl 43 s.data.toList
  rw [g6, zj] at this
  exact this
 have h3 : v2.length ≤ v1.length /\ pr.length ≤ v1.length := by
  have := yl 45 v1
  rw [g7] at this
  exact this
 have j6 : L.length ≤ v2.length + 1 := by rw [← hL]; exact jl 46 v2
 have g9 : Hid (∀ x ∈ L, x.length ≤ v2.length) := zv2 (fun x hx => kf 46 v2 x (by rw [hL]; exact hx))
 obtain ⟨hl1, j4⟩ := hl1
 obtain ⟨h3, j5⟩ := h3
 have HX1 := zv2 g6
 have HX2 := zv2 g7
 have HL := zv2 hL
 have HM := zv2 hm
 clear g6 g7 hL hm
 go_enter Tryz.func85, Tryz.ntmps85
 go_wp2_with fail
 refine (zcv s 43 _ HM.out (by omega)).mono ?_
 rintro e w1 ⟨rfl, hb1⟩
 simp only [HX1.out]
 have HB1 := zv2 hb1
 clear hb1
 go_upto_if 22 with (fail)
 go_cut [8] (fun _ wx => Below w.heap.size w wx /\ (B = true -> V.identifiers bu false = true))
 case first =>
  cases B with
  | false =>
   go_wp2
   go_meet
   exact ⟨HB1.out, fun e => by cases e⟩
  | true =>
   go_wp2_with fail
   refine (kp ⟨bu.toArray⟩ 46 _ (HM.out.below HB1.out) (by show bu.length < _; omega)).mono ?_
   rintro e w4 ⟨rfl, g0⟩
   simp only  at g0 ⊢
   have hi : V.identifiers bu false = (V.zm 46 bu).all (V.ke false) := rfl
   have g8 := jl 46 bu
   have g2 := zv2 (kf 46 bu)
   obtain ⟨L0, g4⟩ : ∃ L0, V.zm 46 bu = L0 := ⟨_, rfl⟩
   rw [g4] at g0 hi g8 g2 ⊢
   have hcs := zv2 (ue g0)
   have HB4 : Hid (Below w.heap.size w w4) := zv2 (by rw [g0]; exact HB1.out.alloc HB1.out.size _)
   have HI := zv2 hi
   clear g0 hi g4
   go_wp2
   go_loop [9] (fun i => ∃ k : Nat, k ≤ L0.length /\ i = .int .i64 k /\ (L0.take k).all (V.ke false) = true) (fun i => L0.length - (intOf i).toNat)
   case atStart => exact ⟨0, Nat.zero_le _, rfl, rfl⟩
   case round =>
    obtain ⟨k, hk, rfl, hp⟩ := hrel
    have HQ := zv2 hp
    clear hp
    by_cases hlt : k < L0.length
    ·have hc := hcs.out k hlt
     have h9 : L0[k].length ≤ bu.length := g2.out _ (List.getElem_mem hlt)
     have HT := zv2 (zdw (p := V.ke false) hlt)
     rcases g1 : V.only (V.kind [45]) L0[k] with _ | _
     all_goals
      have HPK := zv2 g1
      clear g1
      go_wp2_with fail
      refine (vh ⟨L0[k].toArray⟩ ⟨#[45]⟩ _ (by show L0[k].length ≤ _; unfold maxLen; omega)).mono ?_
      rintro e w' ⟨rfl, rfl⟩
      simp only [HPK.out]
      go_wp2
     ·go_ret3
      have HN : Hid (V.zo s.data.toList = none) := zv2 (by
        rw [HP.out, HI.out, zob (k := k) hlt (by rw [zeq]; exact HPK.out)]; rfl)
      rw [HN.out]
      exact ⟨HB4.out, rfl⟩
     ·go_round
      case rel => exact ⟨k + 1, by omega, by go_num, by rw [HT.out, HQ.out, zeq]; exact HPK.out⟩
      case measure => simp [intOf]; omega
    ·have ht : L0.take k = L0 := List.take_of_length_le (by omega)
     rw [ht] at HQ
     clear ht
     go_wp2
     go_meet
     exact ⟨HB4.out, fun _ => by rw [HI.out]; exact HQ.out⟩
 case rest =>
  obtain ⟨hb2, g3⟩ := hcut
  have HB2 := zv2 hb2
  have h6 := zv2 g3
  clear hb2 g3 HB1
  obtain ⟨wo, rfl⟩ : ∃ wo : World, wo = wc := ⟨_, rfl⟩
  go_wp2_with fail
  refine (zcv ⟨v1.toArray⟩ 45 _ (HM.out.below HB2.out) (by show v1.length < _; omega)).mono ?_
  rintro e w3 ⟨rfl, hb3⟩
  simp only [HX2.out]
  have HB3 := zv3 HB2 hb3
  clear hb3
  go_upto_if 43 with (fail)
  go_cut [13] (fun v wx => ∃ ids : List V.Bs, Strs wx v ids /\ Below w.heap.size w wx /\ ids = (if E then V.zm 46 pr else []) /\ (E = true -> V.identifiers pr true = true))
  case first =>
   cases E with
   | false =>
    go_wp2
    go_meet
    exact ⟨[], Strs.nil _, HB3.out, rfl, fun e => by cases e⟩
   | true =>
    go_wp2_with fail
    refine (kp ⟨pr.toArray⟩ 46 _ (HM.out.below HB3.out) (by show pr.length < _; omega)).mono ?_
    rintro e w4 ⟨rfl, g0⟩
    simp only  at g0 ⊢
    have hi : V.identifiers pr true = (V.zm 46 pr).all (V.ke true) := rfl
    have g8 := jl 46 pr
    have g2 := zv2 (kf 46 pr)
    obtain ⟨L0, g4⟩ : ∃ L0, V.zm 46 pr = L0 := ⟨_, rfl⟩
    rw [g4] at g0 hi g8 g2 ⊢
    have hcs := zv2 (ue g0)
    have HB4 : Hid (Below w.heap.size w w4) := zv2 (by rw [g0]; exact HB3.out.alloc HB3.out.size _)
    have j0 : Hid (Strs w4 (.slice (some ⟨w3.heap.size, 0, none⟩) L0.length L0.length) L0) := zv2 (by rw [g0]; exact Strs.split w3 L0 _)
    have HI := zv2 hi
    have j1 := zv2 g4
    clear g0 hi g4
    go_wp2
    go_loop [14] (fun i => ∃ k : Nat, k ≤ L0.length /\ i = .int .i64 k /\ (L0.take k).all (V.ke true) = true) (fun i => L0.length - (intOf i).toNat)
    case atStart => exact ⟨0, Nat.zero_le _, rfl, rfl⟩
    case round =>
     obtain ⟨k, hk, rfl, hp⟩ := hrel
     have HQ := zv2 hp
     clear hp
     by_cases hlt : k < L0.length
     ·have hc := hcs.out k hlt
      have h9 : L0[k].length ≤ pr.length := g2.out _ (List.getElem_mem hlt)
      have HT := zv2 (zdw (p := V.ke true) hlt)
      have HK : Hid (V.ke true L0[k] = (V.only (V.kind [45]) L0[k] && !(V.digits L0[k] && !V.numb L0[k] true))) := rfl
      rcases g1 : V.only (V.kind [45]) L0[k] with _ | _
      ·have HPK := zv2 g1
       rw [g1] at HK
       clear g1
       go_wp2_with fail
       refine (vh ⟨L0[k].toArray⟩ ⟨#[45]⟩ _ (by show L0[k].length ≤ _; unfold maxLen; omega)).mono ?_
       rintro e w' ⟨rfl, rfl⟩
       simp only [HPK.out]
       go_wp2
       exact zyn
      ·have HPK := zv2 g1
       rcases g5 : V.digits L0[k] with _ | _
       ·have h0 := zv2 g5
        rw [g1, g5] at HK
        clear g1 g5
        go_wp2_with fail
        refine (vh ⟨L0[k].toArray⟩ ⟨#[45]⟩ _ (by show L0[k].length ≤ _; unfold maxLen; omega)).mono ?_
        rintro e w' ⟨rfl, rfl⟩
        simp only [HPK.out]
        go_wp2_with fail
        refine (qk ⟨L0[k].toArray⟩ _ (by show L0[k].length ≤ _; unfold maxLen; omega)).mono ?_
        rintro e w' ⟨rfl, rfl⟩
        simp only [h0.out]
        go_wp2
        exact zzf
       ·have h0 := zv2 g5
        rcases h1 : V.numb L0[k] true with _ | _
        all_goals
         have j2 := zv2 h1
         rw [g1, g5, h1] at HK
         clear g1 g5 h1
         go_wp2_with fail
         refine (vh ⟨L0[k].toArray⟩ ⟨#[45]⟩ _ (by show L0[k].length ≤ _; unfold maxLen; omega)).mono ?_
         rintro e w' ⟨rfl, rfl⟩
         simp only [HPK.out]
         go_wp2_with fail
         refine (qk ⟨L0[k].toArray⟩ _ (by show L0[k].length ≤ _; unfold maxLen; omega)).mono ?_
         rintro e w' ⟨rfl, rfl⟩
         simp only [h0.out]
         go_wp2_with fail
         refine (xy ⟨L0[k].toArray⟩ _ (by show L0[k].length ≤ _; unfold maxLen; omega)).mono ?_
         rintro e w' ⟨rfl, rfl⟩
         simp only [j2.out]
         go_wp2
        ·exact zyn
        ·exact zzf
     ·have ht : L0.take k = L0 := List.take_of_length_le (by omega)
      rw [ht] at HQ
      clear ht
      go_wp2
      go_meet
      exact ⟨L0, j0.out, HB4.out, by rw [j1.out]; simp, fun _ => by rw [HI.out]; exact HQ.out⟩
  case rest =>
   obtain ⟨ids, h4, hb5, g3, h2⟩ := hcut
   have HST := zv2 h4
   have HB5 := zv2 hb5
   have h7 := zv2 g3
   have h8 := zv2 h2
   clear h4 hb5 g3 h2 HB3
   go_wp2_with fail
   refine (kp ⟨v2.toArray⟩ 46 _ (HM.out.below HB5.out) (by show v2.length < _; omega)).mono ?_
   rintro e w6 ⟨rfl, hw6⟩
   simp only [HL.out] at hw6 ⊢
   have hcs := zv2 (ue hw6)
   have HB6 : Hid (Below w.heap.size w w6) := zv2 (by rw [hw6]; exact HB5.out.alloc HB5.out.size _)
   have j3 : Hid (Strs w6 u13 ids) := zv2 (HST.out.below (by rw [hw6]; exact (zv5 _ _).alloc (zv4 _) _))
   have h5 : Hid (Strs w6 (.slice (some ⟨wc.heap.size, 0, none⟩) L.length L.length) L) := zv2 (by rw [hw6]; exact Strs.split wc L _)
   have HQ : Hid (V.zo s.data.toList = if L.length != 3 then none else if L.all (fun x => V.numb x true) then some (L, ids) else none) := zv2 (by
     rw [HP.out, h7.out]
     have e1 : (B && !V.identifiers bu false) = false := by
       cases B with
       | false => rfl
       | true => rw [h6.out rfl]; rfl
     have e2 : (E && !V.identifiers pr true) = false := by
       cases E with
       | false => rfl
       | true => rw [h8.out rfl]; rfl
     rw [e1, e2]; rfl)
   clear hw6
   by_cases hlen : L.length = 3
   ·obtain ⟨x, y, z, rfl⟩ : ∃ x y z, L = [x, y, z] := by
     match L, hlen with
     | [x, y, z], _ => exact ⟨x, y, z, rfl⟩
    have cx : w6.cell? ⟨wc.heap.size, 0, none⟩ = some (.string ⟨x.toArray⟩) := hcs.out 0 (by simp)
    have cy : w6.cell? ⟨wc.heap.size, 1, none⟩ = some (.string ⟨y.toArray⟩) := hcs.out 1 (by simp)
    have cz : w6.cell? ⟨wc.heap.size, 2, none⟩ = some (.string ⟨z.toArray⟩) := hcs.out 2 (by simp)
    have lx := g9.out x (by simp)
    have ly := g9.out y (by simp)
    have lz := g9.out z (by simp)
    simp only [List.length_cons, List.length_nil, Nat.reduceAdd] at h5 ⊢
    rcases hx : V.numb x true with _ | _
    ·have HX := zv2 hx
     clear hx
     go_wp2_with fail
     refine (xy ⟨x.toArray⟩ _ (by show x.length ≤ _; unfold maxLen; omega)).mono ?_
     rintro e w' ⟨rfl, rfl⟩
     simp only [HX.out]
     go_wp2
     go_ret3
     have HN : Hid (V.zo s.data.toList = none) := zv2 (by rw [HQ.out]; simp [HX.out])
     rw [HN.out]
     exact ⟨HB6.out, rfl⟩
    ·have HX := zv2 hx
     rcases hy : V.numb y true with _ | _
     ·have HY := zv2 hy
      clear hx hy
      go_wp2_with fail
      refine (xy ⟨x.toArray⟩ _ (by show x.length ≤ _; unfold maxLen; omega)).mono ?_
      rintro e w' ⟨rfl, rfl⟩
      simp only [HX.out]
      go_wp2_with fail
      refine (xy ⟨y.toArray⟩ _ (by show y.length ≤ _; unfold maxLen; omega)).mono ?_
      rintro e w' ⟨rfl, rfl⟩
      simp only [HY.out]
      go_wp2
      go_ret3
      have HN : Hid (V.zo s.data.toList = none) := zv2 (by rw [HQ.out]; simp [HX.out, HY.out])
      rw [HN.out]
      exact ⟨HB6.out, rfl⟩
     ·have HY := zv2 hy
      rcases hz : V.numb z true with _ | _
      all_goals
       have HZ := zv2 hz
       clear hx hy hz
       go_wp2_with fail
       refine (xy ⟨x.toArray⟩ _ (by show x.length ≤ _; unfold maxLen; omega)).mono ?_
       rintro e w' ⟨rfl, rfl⟩
       simp only [HX.out]
       go_wp2_with fail
       refine (xy ⟨y.toArray⟩ _ (by show y.length ≤ _; unfold maxLen; omega)).mono ?_
       rintro e w' ⟨rfl, rfl⟩
       simp only [HY.out]
       go_wp2_with fail
       refine (xy ⟨z.toArray⟩ _ (by show z.length ≤ _; unfold maxLen; omega)).mono ?_
       rintro e w' ⟨rfl, rfl⟩
       simp only [HZ.out]
       go_wp2
       go_ret3
      ·have HN : Hid (V.zo s.data.toList = none) := zv2 (by rw [HQ.out]; simp [HX.out, HY.out, HZ.out])
       rw [HN.out]
       exact ⟨HB6.out, rfl⟩
      ·have HN : Hid (V.zo s.data.toList = some ([x, y, z], ids)) := zv2 (by rw [HQ.out]; simp [HX.out, HY.out, HZ.out])
       rw [HN.out]
       exact ⟨HB6.out, _, _, rfl, h5.out, j3.out⟩
   ·have g8 : ((L.length : Int) != 3) = true := by simp; omega
    have HN : Hid (V.zo s.data.toList = none) := zv2 (by rw [HQ.out]; simp [hlen])
    go_wp2
    go_ret3
    rw [HN.out]
    exact ⟨HB6.out, rfl⟩
def xw (e : V.Bs) : V.Bs := if e = [] then [48] else e
def RDeb (r : Option (V.Bs × V.Bs × V.Bs)) (w : World) (e : Ending) (w' : World) : Prop :=
 Below w.heap.size w w' /\ match r with
 | none => e = .returned (.tuple #[.slice none 0 0, .bool false])
 | some (E, U, R) => ∃ v, e = .returned (.tuple #[v, .bool true]) /\ Strs w' v [xw E, U, R]
theorem Strs.three (w : World) (x y z : V.Bs) (t : Nat) : Strs (w.alloc (.cells #[.string ⟨x.toArray⟩, .string ⟨y.toArray⟩, .string ⟨z.toArray⟩] t)) (.slice (some ⟨w.heap.size, 0, none⟩) 3 3) [x, y, z] :=
 Strs.split w [x, y, z] t
theorem zdt (s : ByteArray) (w : World) (hm : zk w) (hs : s.size ≤ 1000) :
  Calls Tryz.prog 89 #[.string s] w (RDeb (V.zy s.data.toList) w) := by
 obtain ⟨ep, re, H, g2⟩ : ∃ a b c, V.cut1 58 s.data.toList = (a, b, c) := ⟨_, _, _, rfl⟩
 have HP : Hid (V.zy s.data.toList = if H then if V.numb ep false then V.jf ep re else none else V.jf [] s.data.toList) := zv2 (by
   unfold V.zy; rw [g2])
 have hl1 : ep.length ≤ s.size /\ re.length ≤ s.size := by
  have := yl 58 s.data.toList
  rw [g2, zj] at this
  exact this
 obtain ⟨hl1, h3⟩ := hl1
 have HX1 := zv2 g2
 have HM := zv2 hm
 clear g2 hm
 go_enter Tryz.func89, Tryz.ntmps89
 go_wp2_with fail
 refine (zcv s 58 _ HM.out (by omega)).mono ?_
 rintro e w1 ⟨rfl, hb1⟩
 simp only [HX1.out]
 have HB1 := zv2 hb1
 clear hb1
 go_upto_if 17 with (fail)
 go_cut [4, 5] (fun v4 v5 wx => ∃ (E E0 : V.Bs) (V1 : ByteArray), v4 = .string ⟨E.toArray⟩ /\ v5 = .string V1 /\ E.length ≤ 1000 /\ V1.size ≤ s.size /\ Below w.heap.size w wx /\
   V.zy s.data.toList = (if V.digits E then V.jf E0 V1.data.toList else none) /\ (V.digits E = true -> xw E0 = E))
 case first =>
  cases H with
  | false =>
   go_wp2
   go_meet
   exact ⟨[48], [], s, rfl, rfl, by simp, zv4 _, HB1.out, by rw [HP.out]; rfl, fun _ => rfl⟩
  | true =>
   go_wp2
   go_meet
   exact ⟨ep, ep, ⟨re.toArray⟩, rfl, rfl, by omega, h3, HB1.out, by
     rw [HP.out]
     have : V.numb ep false = V.digits ep := by unfold V.numb; simp
     rw [this]; rfl, fun hd => by
     unfold xw
     rw [if_neg]
     intro e0
     have := ze2 hd
     rw [e0] at this
     simp at this⟩
 case rest =>
  obtain ⟨E, E0, V1, rfl, rfl, j2, h4, hb2, g4, g8⟩ := hcut
  have HB2 := zv2 hb2
  have g0 := zv2 g4
  have h5 := zv2 g8
  clear hb2 g4 g8 HP HX1 HB1
  obtain ⟨wo, rfl⟩ : ∃ wo : World, wo = wc := ⟨_, rfl⟩
  go_wp2_with fail
  refine (Tryz.strings_LastIndex_one V1 ⟨#[45]⟩ rfl (by omega) _).mono ?_
  rintro e w3 ⟨rfl, rfl⟩
  have g1 : Lib.lastIndexByte V1 (((ByteArray.mk #[45])[0]'(by decide)).toNat : Int) = V.jd V1.data.toList := by unfold V.jd; rw [zlg]; rfl
  rw [g1]
  clear g1
  obtain ⟨ld, g1⟩ : ∃ ld, V.jd V1.data.toList = ld := ⟨_, rfl⟩
  have HLD := zv2 g1
  rw [g1]
  clear g1
  have g5 : (ld < 0) ∨ ∃ i : Nat, ld = i /\ i < V1.size := by
   exact zyu
  go_upto_if 23 with (fail)
  go_cut [7, 8] (fun v7 v8 wx => ∃ (U R : V.Bs), v7 = .string ⟨U.toArray⟩ /\ v8 = .string ⟨R.toArray⟩ /\ U.length ≤ s.size /\ Below w.heap.size w wx /\
    V.jf E0 V1.data.toList = if V.only (V.kind [46, 43, 126, 45]) U && V.dig (U.getD 0 0) then some (E0, U, R) else none)
  case first =>
   rcases g5 with h2 | ⟨i, rfl, hlt⟩
   ·have HN : Hid (V.jd V1.data.toList < 0) := zv2 (by rw [HLD.out]; exact h2)
    go_wp2
    go_meet
    exact ⟨V1.data.toList, [], by rw [zlg], rfl, by rw [zj]; exact h4, HB2.out, zjy HN.out⟩
   ·have j3 : (0 : Int) ≤ (i : Int) := by omega
    have g6 : V1.extract 0 i = ⟨(V1.data.toList.take i).toArray⟩ := ya (by rw [Lib.extract_data]; simp)
    have g7 : V1.extract (i + 1) V1.size = ⟨(V1.data.toList.drop (i + 1)).toArray⟩ := ya (by rw [Lib.extract_to_end])
    have h6 := zv2 g6
    have h7 := zv2 g7
    have g9 : (V1.data.toList.drop (i + 1)).length ≤ maxLen := by rw [List.length_drop, zj]; unfold maxLen; omega
    have h0 : (V1.data.toList.take i).length ≤ s.size := by rw [List.length_take, zj]; omega
    have h8 := zv2 g9
    have h9 := zv2 h0
    clear g6 g7 g9 h0
    rcases hk : V.only (V.kind V.allow) (V1.data.toList.drop (i + 1)) with _ | _
    all_goals
     have HK := zv2 hk
     clear hk
     go_wp2
     go_region
     go_wp2_with fail
     rw [h7.out]
     refine (vh ⟨(V1.data.toList.drop (i + 1)).toArray⟩ ⟨#[46, 43, 126]⟩ _ h8.out).mono ?_
     rintro e w' ⟨rfl, rfl⟩
     have j0 : V.only (V.kind (ByteArray.mk #[46, 43, 126]).data.toList) (ByteArray.mk (V1.data.toList.drop (i + 1)).toArray).data.toList = V.only (V.kind V.allow) (V1.data.toList.drop (i + 1)) := rfl
     rw [j0, HK.out]
     go_wp2
    ·go_ret2
     have HN : Hid (V.zy s.data.toList = none) := zv2 (by rw [g0.out, zhm HLD.out HK.out]; simp)
     rw [HN.out]
     exact ⟨HB2.out.drew, rfl⟩
    ·go_meet
     exact ⟨V1.data.toList.take i, V1.data.toList.drop (i + 1), by rw [h6.out], rfl, h9.out, HB2.out.drew, zhi HLD.out HK.out⟩
  case rest =>
   obtain ⟨U, R, rfl, rfl, j1, hb5, g3⟩ := hcut
   have HB5 := zv2 hb5
   have HT := zv2 g3
   clear hb5 g3 HLD HB2
   rcases hd : V.digits E with _ | _
   ·have HD := zv2 hd
    have HN : Hid (V.zy s.data.toList = none) := zv2 (by rw [g0.out, hd]; rfl)
    clear hd
    go_wp2_with fail
    refine (qk ⟨E.toArray⟩ _ (by show E.length ≤ _; unfold maxLen; omega)).mono ?_
    rintro e w' ⟨rfl, rfl⟩
    simp only [HD.out]
    go_wp2
    go_ret2
    rw [HN.out]
    exact ⟨HB5.out, rfl⟩
   ·have HD := zv2 hd
    have HE := zv2 (h5.out hd)
    rcases hk : V.only (V.kind [46, 43, 126, 45]) U with _ | _
    ·have HK := zv2 hk
     have HN : Hid (V.zy s.data.toList = none) := zv2 (by rw [g0.out, hd, if_pos rfl, HT.out, hk]; rfl)
     clear hd hk
     go_wp2_with fail
     refine (qk ⟨E.toArray⟩ _ (by show E.length ≤ _; unfold maxLen; omega)).mono ?_
     rintro e w' ⟨rfl, rfl⟩
     simp only [HD.out]
     go_wp2_with fail
     refine (vh ⟨U.toArray⟩ ⟨#[46, 43, 126, 45]⟩ _ (by show U.length ≤ _; unfold maxLen; omega)).mono ?_
     rintro e w' ⟨rfl, rfl⟩
     simp only [HK.out]
     go_wp2
     go_ret2
     rw [HN.out]
     exact ⟨HB5.out, rfl⟩
    ·have HK := zv2 hk
     obtain ⟨u0, ur, rfl⟩ : ∃ u0 ur, U = u0 :: ur := by
      cases U with
      | nil => simp [V.only] at hk
      | cons u0 ur => exact ⟨u0, ur, rfl⟩
     have h1 : (ByteArray.mk (u0 :: ur).toArray).size = ur.length + 1 := by simp [ByteArray.size]
     rcases hg : V.digB u0.toNat with _ | _
     all_goals
      have HG := zv2 hg
      go_wp2_with fail
      refine (qk ⟨E.toArray⟩ _ (by show E.length ≤ _; unfold maxLen; omega)).mono ?_
      rintro e w' ⟨rfl, rfl⟩
      simp only [HD.out]
      go_wp2_with fail
      refine (vh ⟨(u0 :: ur).toArray⟩ ⟨#[46, 43, 126, 45]⟩ _ (by rw [h1]; unfold maxLen; simp at j1; omega)).mono ?_
      rintro e w' ⟨rfl, rfl⟩
      simp only [HK.out]
      go_wp2_with fail
      refine (zbf _ _).mono ?_
      rintro e w' ⟨rfl, rfl⟩
      rw [show V.digB (((ByteArray.mk (u0 :: ur).toArray)[0]'(by rw [h1]; omega)).toNat : Int) = V.digB u0.toNat from rfl, HG.out]
      go_wp2
      go_ret2
     ·have HN : Hid (V.zy s.data.toList = none) := zv2 (by
        rw [g0.out, hd, if_pos rfl, HT.out, hk, show V.dig ((u0 :: ur).getD 0 0) = V.digB u0.toNat from rfl, hg]; rfl)
      rw [HN.out]
      exact ⟨HB5.out, rfl⟩
     ·have HN : Hid (V.zy s.data.toList = some (E0, u0 :: ur, R)) := zv2 (by
        rw [g0.out, hd, if_pos rfl, HT.out, hk, show V.dig ((u0 :: ur).getD 0 0) = V.digB u0.toNat from rfl, hg]; rfl)
      rw [HN.out]
      refine ⟨HB5.out.alloc HB5.out.size _, _, rfl, ?_⟩
      rw [HE.out]
      exact Strs.three _ _ _ _ _
open Go.RowKit
theorem zlb {r : Option (V.Bs × V.Bs × V.Bs)} {E U R : V.Bs} {w : World} {e : Ending} {w' : World} (h : RDeb r w e w') (hr : r = some (E, U, R)) :
  ∃ b off cap, e = .returned (.tuple #[.slice (some ⟨b, off, none⟩) 3 cap, .bool true]) /\ b < w'.heap.size /\ w'.cell? ⟨b, off, none⟩ = some (.string ⟨(xw E).toArray⟩) /\
   w'.cell? ⟨b, off + 1, none⟩ = some (.string ⟨U.toArray⟩) /\ w'.cell? ⟨b, off + 2, none⟩ = some (.string ⟨R.toArray⟩) /\ Below w.heap.size w w' := by
 subst hr
 obtain ⟨hb, v, rfl, hs⟩ := h
 obtain ⟨b, off, cap, rfl, hlt, hc⟩ := hs.head (by simp)
 exact ⟨b, off, cap, rfl, hlt, hc 0 (by simp), hc 1 (by simp), hc 2 (by simp), hb⟩
theorem zg4 (e : V.Bs) : V.value (xw e) = V.value e := by
 unfold xw
 split
 ·rename_i h; subst h; rfl
 ·rfl
theorem zdq (x y : V.Bs) (w : World) (hx : x.length ≤ 1000) (hy : y.length ≤ 1000) :
  Calls Tryz.prog 86 #[.string ⟨x.toArray⟩, .string ⟨y.toArray⟩] w fun e w' => e = .returned (.int .i64 (V.numbers x y)) /\ w' = w := by
 have h := zex ⟨x.toArray⟩ ⟨y.toArray⟩ w (by show x.length ≤ _; unfold maxLen; omega) (by show y.length ≤ _; unfold maxLen; omega)
 simp only  at h
 exact h.mono fun _ _ h => ⟨h.1, h.2.symm⟩
theorem zk2 (s t : ByteArray) (x0 x1 x2 y0 y1 y2 : V.Bs) (w : World) (hm : zk w) (hs : s.size ≤ 64) (ht : t.size ≤ 64)
  (hp : V.zy s.data.toList = some (x0, x1, x2)) (hq : V.zy t.data.toList = some (y0, y1, y2)) :
  Calls Tryz.prog 53 #[.string s, .string t] w fun e w' => e = .returned (.int .i64 (V.ug (x0, x1, x2) (y0, y1, y2))) /\ Below w.heap.size w w' := by
 have fa := V.ui hp
 have fb := V.ui hq
 rw [zj] at fa fb
 have ga := V.zdp hp
 have gb := V.zdp hq
 obtain ⟨fa0, fa1, fa2⟩ := fa
 obtain ⟨fb0, fb1, fb2⟩ := fb
 simp only at fa0 fa1 fa2 fb0 fb1 fb2
 have GA := zv2 ga
 have GB := zv2 gb
 have g6 : (xw x0).length ≤ 65 := by unfold xw; split <;> (try simp) <;> omega
 have g7 : (xw y0).length ≤ 65 := by unfold xw; split <;> (try simp) <;> omega
 have HF : Hid (V.ug (x0, x1, x2) (y0, y1, y2) = V.cor (V.numbers (xw x0) (xw y0)) (V.cor (V.qj x1 y1) (V.qj x2 y2))) := zv2 (by
   unfold V.ug
   rw [V.zk5 (zg4 x0) (zg4 y0)]
   simp only [V.orI, V.zb7])
 obtain ⟨ex, g0⟩ : ∃ x, xw x0 = x := ⟨_, rfl⟩
 obtain ⟨ey, g3⟩ : ∃ x, xw y0 = x := ⟨_, rfl⟩
 rw [g0] at g6 HF
 rw [g3] at g7 HF
 have g8 := zv2 g0
 have g9 := zv2 g3
 have HP := zv2 hp
 have HQ := zv2 hq
 have HM := zv2 hm
 clear hp hq hm ga gb g0 g3
 go_enter Tryz.func53, Tryz.ntmps53
 go_wp2_with fail
 refine (zdt s _ HM.out (by omega)).mono ?_
 rintro e w1 h
 obtain ⟨b, off, cap, rfl, hlt, c0, c1, c2, hb1⟩ := zlb h HP.out
 rw [g8.out] at c0
 have h1 := HM.out.below hb1
 have HB1 := zv2 hb1
 clear h hb1
 go_wp2_with fail
 refine (zdt t _ h1 (by omega)).mono ?_
 rintro e w2 h
 obtain ⟨b', off', cap', rfl, g4, d0, d1, d2, hb2⟩ := zlb h HQ.out
 rw [g9.out] at d0
 have e0 := (hb2.cell (p := ⟨b, off, none⟩) hlt).trans c0
 have e1 := (hb2.cell (p := ⟨b, off + 1, none⟩) hlt).trans c1
 have e2 := (hb2.cell (p := ⟨b, off + 2, none⟩) hlt).trans c2
 have g5 : b < w2.heap.size := Nat.lt_of_lt_of_le hlt hb2.size
 have HB2 := zv3 HB1 hb2
 clear h hb2 c0 c1 c2 hlt
 go_wp2_with fail
 go_quiet ((go_at_call 86; exact Calls.quiet_of_same (zdq ex ey _ (by omega) (by omega))))
 rename_i nq
 have f1 : (w2.drewN nq).cell? ⟨b, off + 1, none⟩ = some (.string ⟨x1.toArray⟩) := by rw [World.cell?_drewN]; exact e1
 have f2 : (w2.drewN nq).cell? ⟨b, off + 2, none⟩ = some (.string ⟨x2.toArray⟩) := by rw [World.cell?_drewN]; exact e2
 have g1 : (w2.drewN nq).cell? ⟨b', off' + 1, none⟩ = some (.string ⟨y1.toArray⟩) := by rw [World.cell?_drewN]; exact d1
 have g2 : (w2.drewN nq).cell? ⟨b', off' + 2, none⟩ = some (.string ⟨y2.toArray⟩) := by rw [World.cell?_drewN]; exact d2
 have HBW := zv2 (below_drewN HB2.out nq)
 have lt1 : b < (w2.drewN nq).heap.size := Nat.lt_of_lt_of_le g5 (below_drewN (zv5 w2.heap.size w2) nq).size
 have lt2 : b' < (w2.drewN nq).heap.size := Nat.lt_of_lt_of_le g4 (below_drewN (zv5 w2.heap.size w2) nq).size
 clear e0 e1 e2 d0 d1 d2 HB2 g5 g4
 generalize w2.drewN nq = W at *
 by_cases h0 : V.numbers ex ey = 0
 ·have HF2 : Hid (V.ug (x0, x1, x2) (y0, y1, y2) = V.cor (V.qj x1 y1) (V.qj x2 y2)) := zv2 (by rw [HF.out, h0]; rfl)
  rw [h0]
  clear h0
  go_wp2
  go_still_tail 6, (by kernel_rfl)
  change wpList _ _ _ _ _ W.drew
  have k2 : W.drew.cell? ⟨b, off + 2, none⟩ = some (.string ⟨x2.toArray⟩) := by rw [World.cell?_drew]; exact f2
  have l2 : W.drew.cell? ⟨b', off' + 2, none⟩ = some (.string ⟨y2.toArray⟩) := by rw [World.cell?_drew]; exact g2
  have HBV := zv2 HBW.out.drew
  have lt1' : b < W.drew.heap.size := lt1
  have lt2' : b' < W.drew.heap.size := lt2
  clear f1 f2 g1 g2 lt1 lt2 HBW
  generalize W.drew = W2 at *
  go_wp2_with fail
  refine (zqo x1 y1 _ (by omega) (by omega) GA.out.1 GB.out.1).mono ?_
  rintro e w3 ⟨rfl, hb3⟩
  have m2 := (hb3.cell (p := ⟨b, off + 2, none⟩) lt1').trans k2
  have n2 := (hb3.cell (p := ⟨b', off' + 2, none⟩) lt2').trans l2
  have HB3 := zv3 HBV hb3
  clear k2 l2 lt1' lt2' hb3 HBV
  by_cases h0 : V.qj x1 y1 = 0
  ·have HF3 : Hid (V.ug (x0, x1, x2) (y0, y1, y2) = V.qj x2 y2) := zv2 (by rw [HF2.out, h0]; rfl)
   rw [h0]
   clear h0
   go_wp2
   go_still_tail 6, (by kernel_rfl)
   change wpList _ _ _ _ _ w3.drew
   have HBV := zv2 HB3.out.drew
   clear m2 n2 HB3
   generalize w3.drew = W4 at *
   go_wp2_with fail
   refine (zqo x2 y2 _ (by omega) (by omega) GA.out.2 GB.out.2).mono ?_
   rintro e w5 ⟨rfl, hb5⟩
   have HB5 := zv3 HBV hb5
   clear hb5
   go_wp2
   go_ret
   exact ⟨zv HF3.out.symm, HB5.out⟩
  ·have HF3 : Hid (V.ug (x0, x1, x2) (y0, y1, y2) = V.qj x1 y1) := zv2 (by rw [HF2.out, V.jy h0])
   have hb : (V.qj x1 y1 != 0) = true := by simpa using h0
   generalize V.qj x1 y1 = c at *
   clear h0
   go_wp2
   go_ret
   exact ⟨zv HF3.out.symm, HB3.out⟩
 ·have HF2 : Hid (V.ug (x0, x1, x2) (y0, y1, y2) = V.numbers ex ey) := zv2 (by rw [HF.out, V.jy h0])
  have hb : (V.numbers ex ey != 0) = true := by simpa using h0
  generalize V.numbers ex ey = c at *
  clear h0
  go_wp2
  go_ret
  exact ⟨zv HF2.out.symm, HBW.out⟩
theorem zk8 (s : ByteArray) (hs : s.size ≤ 64) : (V.zm 46 s.data.toList).length ≤ 65 /\ ∀ j, ((V.zm 46 s.data.toList).getD j [48]).length ≤ 65 := by
 have h1 := jl 46 s.data.toList
 have h2 := kf 46 s.data.toList
 rw [zj] at h1 h2
 refine ⟨by omega, fun j => ?_⟩
 rw [List.getD_eq_getElem?_getD]
 rcases hk : (V.zm 46 s.data.toList)[j]? with _ | x
 ·simp
 ·have := h2 x (List.mem_of_getElem? hk); simp; omega
theorem zxc {P : Prop} (h : P := by
 have HN := zv2 (HNEXT.out h0)
 rw [h0]
 clear h0
 have hk2 := hkm.out
 go_wp2
 go_round
 case rel => exact ⟨k + 1, by omega, by go_num, HN.out⟩
 case measure => simp [intOf]; omega) : P := h
theorem zqn (s t : ByteArray) (w : World) (hm : zk w) (hs : s.size ≤ 64) (ht : t.size ≤ 64) :
  Calls Tryz.prog 54 #[.string s, .string t] w fun e w' => e = .returned (.int .i64 (V.za8 s.data.toList t.data.toList)) /\ Below w.heap.size w w' := by
 have HF := zv2 (V.pad_dots s.data.toList t.data.toList)
 have g9 := zk8 s hs
 have hlt := zk8 t ht
 obtain ⟨L, hL⟩ : ∃ L, V.zm 46 s.data.toList = L := ⟨_, rfl⟩
 obtain ⟨M, hM⟩ : ∃ M, V.zm 46 t.data.toList = M := ⟨_, rfl⟩
 rw [hL] at g9 HF
 rw [hM] at hlt HF
 obtain ⟨l1, g7⟩ := g9
 obtain ⟨m1, g8⟩ := hlt
 have g7 := zv2 g7
 have g8 := zv2 g8
 have h1 := zv2 hm
 have HL := zv2 hL
 have HM := zv2 hM
 clear hm hL hM
 go_enter Tryz.func54, Tryz.ntmps54
 go_wp2_with fail
 refine (kp s 46 _ h1.out (by omega)).mono ?_
 rintro e w1 ⟨rfl, g3⟩
 rw [HL.out] at g3 ⊢
 have hb1 : Below w.heap.size w w1 := by rw [g3]; exact (zv5 _ _).alloc (zv4 _) _
 have c1 := ue g3
 have z1 : w.heap.size < w1.heap.size := by rw [g3]; simp
 clear g3
 go_wp2_with fail
 refine (kp t 46 _ (h1.out.below hb1) (by omega)).mono ?_
 rintro e w2 ⟨rfl, g4⟩
 rw [HM.out] at g4 ⊢
 have hb2 : Below w1.heap.size w1 w2 := by rw [g4]; exact (zv5 _ _).alloc (zv4 _) _
 have h2 : Hid (∀ (j : Nat) (_ : j < L.length), w2.cell? ⟨w.heap.size, j, none⟩ = some (.string ⟨(L.getD j [48]).toArray⟩)) := zv2 (fun j hj => by
   rw [hb2.cell (p := ⟨w.heap.size, j, none⟩) z1, c1 j hj, List.getD_eq_getElem?_getD, List.getElem?_eq_getElem hj]; rfl)
 have h3 : Hid (∀ (j : Nat) (_ : j < M.length), w2.cell? ⟨w1.heap.size, j, none⟩ = some (.string ⟨(M.getD j [48]).toArray⟩)) := zv2 (fun j hj => by
   rw [ue g4 j hj, List.getD_eq_getElem?_getD, List.getElem?_eq_getElem hj]; rfl)
 have HB2 := zv2 (hb1.trans (hb2.mono hb1.size))
 clear hb1 hb2 c1 z1 g4
 go_wp2
 go_loop [7] (fun i => ∃ k : Nat, k ≤ max L.length M.length /\ i = .int .i64 k /\ ∀ j, j < k -> V.numbers (L.getD j [48]) (M.getD j [48]) = 0) (fun i => max L.length M.length - (intOf i).toNat)
 case atStart => exact ⟨0, Nat.zero_le _, rfl, fun j hj => by omega⟩
 case round =>
  obtain ⟨k, hk, rfl, hz⟩ := hrel
  have HZ := zv2 hz
  clear hz
  by_cases hor : k < L.length ∨ k < M.length
  ·have hsl := g7.out k
   have h4 := g8.out k
   have g0 := zv2 (V.pad_hit k L M HZ.out hor)
   obtain ⟨x, hx⟩ : ∃ x, L.getD k [48] = x := ⟨_, rfl⟩
   obtain ⟨y, hy⟩ : ∃ y, M.getD k [48] = y := ⟨_, rfl⟩
   have HX := zv2 hx
   have HY := zv2 hy
   have g1 := h2.out k
   have g2 := h3.out k
   rw [hx] at hsl g1 g0
   rw [hy] at h4 g2 g0
   have g5 : ¬ k < L.length -> x = [48] := fun h => by rw [← hx, List.getD_eq_getElem?_getD, List.getElem?_eq_none (by omega)]; rfl
   have g6 : ¬ k < M.length -> y = [48] := fun h => by rw [← hy, List.getD_eq_getElem?_getD, List.getElem?_eq_none (by omega)]; rfl
   have HNEXT : Hid (V.numbers x y = 0 -> ∀ j, j < k + 1 -> V.numbers (L.getD j [48]) (M.getD j [48]) = 0) := zv2 (fun h0 j hj => by
     by_cases e : j = k
     · subst e; rw [HX.out, HY.out]; exact h0
     · exact HZ.out j (by omega))
   have hkm : Hid (k < max L.length M.length) := zv2 (by omega)
   clear hx hy
   have three : (k < L.length /\ k < M.length) ∨ (k < L.length /\ ¬ k < M.length) ∨ (¬ k < L.length /\ k < M.length) := by omega
   clear hor
   rcases three with ⟨a1, a2⟩ | ⟨a1, a2⟩ | ⟨a1, a2⟩
   ·have d1 := g1 a1
    have d2 := g2 a2
    clear g5 g6 g1 g2
    go_wp2_with fail
    refine (zdq x y _ (by omega) (by omega)).mono ?_
    rintro e w' ⟨rfl, rfl⟩
    by_cases h0 : V.numbers x y = 0
    ·exact zxc
    ·have HR : Hid (V.za8 s.data.toList t.data.toList = V.numbers x y) := zv2 (by rw [← HF.out]; exact g0.out h0)
     have hb : (V.numbers x y != 0) = true := by simpa using h0
     generalize V.numbers x y = c at *
     exact zzz
   ·have d1 := g1 a1
    obtain rfl := g6 a2
    clear g5 g6 g1 g2
    go_wp2_with fail
    refine (zdq x [48] _ (by omega) (by simp)).mono ?_
    rintro e w' ⟨rfl, rfl⟩
    by_cases h0 : V.numbers x [48] = 0
    ·exact zxc
    ·have HR : Hid (V.za8 s.data.toList t.data.toList = V.numbers x [48]) := zv2 (by rw [← HF.out]; exact g0.out h0)
     have hb : (V.numbers x [48] != 0) = true := by simpa using h0
     generalize V.numbers x [48] = c at *
     exact zzz
   ·have d2 := g2 a2
    obtain rfl := g5 a1
    clear g5 g6 g1 g2
    go_wp2_with fail
    refine (zdq [48] y _ (by simp) (by omega)).mono ?_
    rintro e w' ⟨rfl, rfl⟩
    by_cases h0 : V.numbers [48] y = 0
    ·exact zxc
    ·have HR : Hid (V.za8 s.data.toList t.data.toList = V.numbers [48] y) := zv2 (by rw [← HF.out]; exact g0.out h0)
     have hb : (V.numbers [48] y != 0) = true := by simpa using h0
     generalize V.numbers [48] y = c at *
     exact zzz
  ·have HE : Hid (V.za8 s.data.toList t.data.toList = 0) := zv2 (by rw [← HF.out]; exact V.pad_end k L M HZ.out hor)
   have a1 : ¬ k < L.length := by omega
   have a2 : ¬ k < M.length := by omega
   clear hor
   go_wp2
   go_ret
   exact ⟨zv HE.out.symm, HB2.out⟩
end Go.Proofs.YtbikeahmldobkaaGreatDoor
