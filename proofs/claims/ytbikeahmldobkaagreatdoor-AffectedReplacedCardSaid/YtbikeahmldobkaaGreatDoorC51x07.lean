/-
  Lemmas for the law.
-/
import Derived.Test.YtbikeahmldobkaaGreatDoorC51x06
import Derived.Test.YtbikeahmldobkaaGreatDoorC51x01
import Derived.BigRegion
import Derived.Laws.EntriesVeiled
import Derived.Deep.DeepCutAuto
set_option linter.all false
set_option maxRecDepth 100000
set_option maxHeartbeats 6400000
namespace Go.Proofs.YtbikeahmldobkaaGreatDoor
open Go.RowKit
theorem zm3 {r : Option (List V.Bs × List V.Bs)} {w : World} {e : Ending} {w' : World} (h : zh1 r w e w') (hr : r = none) :
  e = .returned (.tuple #[.agg #[.string ⟨#[]⟩, .string ⟨#[]⟩, .string ⟨#[]⟩, .slice none 0 0], .bool false]) /\ Below w.heap.size w w' := by
 subst hr; exact ⟨h.2, h.1⟩
theorem zfb {r : Option (List V.Bs × List V.Bs)} {l pre : List V.Bs} {w : World} {e : Ending} {w' : World} (h : zh1 r w e w') (hr : r = some (l, pre)) :
  ∃ pv, e = .returned (.tuple #[.agg #[.string ⟨(l.getD 0 []).toArray⟩, .string ⟨(l.getD 1 []).toArray⟩, .string ⟨(l.getD 2 []).toArray⟩, pv], .bool true]) /\ Strs w' pv pre /\ Below w.heap.size w w' := by
 subst hr; obtain ⟨h1, pv, h2, h3⟩ := h; exact ⟨pv, h3, h2, h1⟩
theorem zw6 {P : Prop} (h : P := by
 have HB1 := zu9 HB0 hb1
 clear h hb1
 go_wp2
 go_ret
 refine ⟨ze rfl, ?_⟩
 exact (HB1.out.alloc HB1.out.size _)) : P := h
theorem zmw (s : ByteArray) (w : World) (hm : zj w) (hs : s.size ≤ 1000) :
  Calls Tryz.prog 227 #[.agg #[], .string s] w fun e w' => e = .returned (.bool (V.zo s.data.toList).isSome) /\ Below w.heap.size w w' := by
 have g0 : Below w.heap.size w (w.alloc (.cells #[] 203)) := (zvb _ w).alloc (zva _) _
 have g1 := hm.below g0
 rcases hp : V.zo s.data.toList with _ | ⟨l, pre⟩
 ·have HP := zu8 hp
  have HB0 := zu8 g0
  clear hp g0
  go_enter Tryz.func227, Tryz.ntmps227
  go_wp2_with fail
  refine (zah s _ g1 hs).mono ?_
  rintro e w1 h
  obtain ⟨rfl, hb1⟩ := zm3 h HP.out
  exact zw6
 ·have HP := zu8 hp
  have HB0 := zu8 g0
  clear hp g0
  go_enter Tryz.func227, Tryz.ntmps227
  go_wp2_with fail
  refine (zah s _ g1 hs).mono ?_
  rintro e w1 h
  obtain ⟨pv, rfl, g2, hb1⟩ := zfb h HP.out
  obtain ⟨a, cap, rfl, hc⟩ := g2
  have HB1 := zu9 HB0 hb1
  clear h hb1 hc
  go_wp2
  go_ret
  refine ⟨ze rfl, ?_⟩
  exact (HB1.out.alloc HB1.out.size _)
theorem jm {l : List V.Bs} {k : Nat} (h : k < l.length) : l.getD k [] = l[k] := by simp [List.getD, List.getElem?_eq_getElem h]
theorem zht (c : UInt8) (n : Nat) (h : n < 256) : decide (c = UInt8.ofNat n) = ((c.toNat : Int) == (n : Int)) := by
 rw [Bool.eq_iff_iff]
 simp only [decide_eq_true_eq, beq_iff_eq]
 rw [← UInt8.toNat_inj, UInt8.toNat_ofNat']
 have : n % 2 ^ 8 = n := Nat.mod_eq_of_lt h
 rw [this]; omega
theorem kind3 (c : UInt8) : V.kind V.allow c = (V.letB c.toNat || V.digB c.toNat || ((c.toNat : Int) == 46) || ((c.toNat : Int) == 43) || ((c.toNat : Int) == 126)) := by
 unfold V.kind V.lett V.dig V.allow
 have h1 := zht c 46 (by omega)
 have h2 := zht c 43 (by omega)
 have h3 := zht c 126 (by omega)
 have e : decide (c ∈ [46, 43, 126]) = (decide (c = UInt8.ofNat 46) || decide (c = UInt8.ofNat 43) || decide (c = UInt8.ofNat 126)) := by
  rw [Bool.eq_iff_iff]; simp; rw [or_assoc]
 rw [e, h1, h2, h3]
 simp [Bool.or_assoc]
theorem kind4 (c : UInt8) : V.kind [46, 43, 126, 45] c = (V.kind V.allow c || ((c.toNat : Int) == 45)) := by
 have h1 := zht c 45 (by omega)
 have e : ((c.toNat : Int) == 45) = decide (c = UInt8.ofNat 45) := h1.symm
 rw [e]
 unfold V.kind V.allow
 rw [Bool.eq_iff_iff]; simp; constructor
 ·rintro (h | h | h | h | h)
  ·exact .inl (.inl h)
  ·exact .inl (.inr (.inl h))
  ·exact .inl (.inr (.inr (.inl h)))
  ·exact .inl (.inr (.inr (.inr h)))
  ·exact .inr h
 ·rintro ((h | h | h | h) | h)
  ·exact .inl h
  ·exact .inr (.inl h)
  ·exact .inr (.inr (.inl h))
  ·exact .inr (.inr (.inr (.inl h)))
  ·exact .inr (.inr (.inr (.inr h)))
theorem zhd (c : UInt8) (w : World) :
  Calls Tryz.prog 256 #[.int .u8 c.toNat] w fun e w' => e = .returned (.bool (V.kind V.allow c)) /\ w = w' := by
 have HK := zu8 (kind3 c)
 generalize hn : (c.toNat : Int) = x at *
 clear hn
 rcases hD : V.digB x with _ | _
 ·have HD := zu8 hD
  rcases hL : V.letB x with _ | _
  all_goals
   have HL := zu8 hL
   rw [hD, hL] at HK
   clear hD hL
   go_enter Tryz.func256, Tryz.ntmps256
   go_wp2_with fail
   refine (vh _ _).mono ?_
   rintro e w' ⟨rfl, rfl⟩
   simp only [HD.out]
   go_wp2_with fail
   refine (zcp _ _).mono ?_
   rintro e w' ⟨rfl, rfl⟩
   simp only [HL.out]
   go_wp2
   all_goals
    go_ret
    exact ⟨ze (by rw [HK.out]; simp_all), rfl⟩
 ·have HD := zu8 hD
  rw [hD] at HK
  clear hD
  go_enter Tryz.func256, Tryz.ntmps256
  exact zxx
theorem znl (s : ByteArray) (w : World) (hs : s.size ≤ maxLen) :
  Calls Tryz.prog 235 #[.string s, .func (.func 256) #[] #[]] w fun e w' => e = .returned (.bool (V.only (V.kind V.allow) s.data.toList)) /\ w = w' :=
 zfy s _ #[] (V.kind V.allow) w hs (enters_of Tryz.func256 (by kernel_rfl) rfl) (fun c => zhd c w)
theorem zns (c : UInt8) (q : Nat) (w : World) (hq : w.cell? ⟨q, 0, none⟩ = some (.func (.func 256) #[] #[])) :
  Calls Tryz.prog 258 #[.int .u8 c.toNat, .pointer (some ⟨q, 0, none⟩)] w fun e w' => e = .returned (.bool (V.kind [46, 43, 126, 45] c)) /\ w = w' := by
 have HK := zu8 (kind4 c)
 rcases hA : V.kind V.allow c with _ | _
 all_goals
  have HA := zu8 hA
  rw [hA] at HK
  clear hA
  go_enter Tryz.func258, Tryz.ntmps258
  go_wp2_with fail
  refine (zhd _ _).mono ?_
  rintro e w' ⟨rfl, rfl⟩
  simp only [HA.out]
  go_wp2
  go_ret
  exact ⟨ze (by rw [HK.out]; simp), rfl⟩
theorem zek (s : ByteArray) (q : Nat) (w : World) (hs : s.size ≤ maxLen) (hq : w.cell? ⟨q, 0, none⟩ = some (.func (.func 256) #[] #[])) :
  Calls Tryz.prog 235 #[.string s, .func (.func 258) #[] #[.pointer (some ⟨q, 0, none⟩)]] w fun e w' => e = .returned (.bool (V.only (V.kind [46, 43, 126, 45]) s.data.toList)) /\ w = w' :=
 zfy s _ #[.pointer (some ⟨q, 0, none⟩)] (V.kind [46, 43, 126, 45]) w hs (enters_of Tryz.func258 (by kernel_rfl) rfl) (fun c => zns c q w hq)
open Go.RowKit
def zno (r : Option (V.Bs × V.Bs × V.Bs)) (w : World) (e : Ending) (w' : World) : Prop :=
 Below w.heap.size w w' /\ match r with
 | none => e = .returned (.tuple #[.agg #[.string ⟨#[]⟩, .string ⟨#[]⟩, .string ⟨#[]⟩], .bool false])
 | some (a, b, c) => e = .returned (.tuple #[.agg #[.string ⟨a.toArray⟩, .string ⟨b.toArray⟩, .string ⟨c.toArray⟩], .bool true])
theorem wi (tmps : Array Value) (w : World) (b : Nat) (x : Bool) (v0 v1 v2 : Value) (h4 : tmps.getD 4 undef = .pointer (some ⟨b, 0, none⟩)) (h5 : tmps.getD 5 undef = .bool x)
  (c0 : w.cell? ⟨b, 0, none⟩ = some v0) (c1 : w.cell? ⟨b, 1, none⟩ = some v1) (c2 : w.cell? ⟨b, 2, none⟩ = some v2) :
  (results Tryz.f254 tmps).run Tryz.prog w = .ok (.tuple #[.agg #[v0, v1, v2], .bool x]) w := by
 have g0 : tmps[4]?.getD undef = .pointer (some ⟨b, 0, none⟩) := by simpa using h4
 have g1 : tmps[5]?.getD undef = .bool x := by simpa using h5
 simp [results, Tryz.results254, go_sem, g0, g1, c0, c1, c2]
theorem set3 (w : World) (b : Nat) (u0 u1 u2 v0 v1 v2 : Value) (c0 : w.cell? ⟨b, 0, none⟩ = some u0) (c1 : w.cell? ⟨b, 1, none⟩ = some u1) (c2 : w.cell? ⟨b, 2, none⟩ = some u2) :
  let W := ((w.setCell ⟨b, 0, none⟩ v0).setCell ⟨b, 1, none⟩ v1).setCell ⟨b, 2, none⟩ v2
  W.cell? ⟨b, 0, none⟩ = some v0 /\ W.cell? ⟨b, 1, none⟩ = some v1 /\ W.cell? ⟨b, 2, none⟩ = some v2 := by
 have o : ∀ (W : World) (i j : Nat) (v : Value), i ≠ j -> (W.setCell ⟨b, i, none⟩ v).cell? ⟨b, j, none⟩ = W.cell? ⟨b, j, none⟩ := fun W i j v h => World.cell?_setCell_other _ _ _ _ (by simp )
 refine ⟨?_, ?_, ?_⟩
 ·rw [o _ 2 0 _ (by omega), o _ 1 0 _ (by omega)]
  exact World.cell?_setCell_same _ _ _ c0
 ·rw [o _ 2 1 _ (by omega)]
  exact World.cell?_setCell_same _ _ _ ((o _ 0 1 _ (by omega)).trans c1)
 ·exact zy1
theorem zaq {w0 w : World} (b : Nat) (h : Below w0.heap.size w0 w) (hb : w0.heap.size ≤ b) (v0 v1 v2 : Value) :
  Below w0.heap.size w0 (((w.setCell ⟨b, 0, none⟩ v0).setCell ⟨b, 1, none⟩ v1).setCell ⟨b, 2, none⟩ v2) :=
 ((h.setCell (p := ⟨b, 0, none⟩) hb _).setCell (p := ⟨b, 1, none⟩) hb _).setCell (p := ⟨b, 2, none⟩) hb _
theorem zjn {E V1 : V.Bs} (h : V.ja V1 < 0) : V.jc E V1 = if V.only (V.kind [46, 43, 126, 45]) V1 && V.dig (V1.getD 0 0) then some (E, V1, []) else none := by
 unfold V.jc; rw [if_pos h]
theorem zhg {E V1 : V.Bs} {i : Nat} (h : V.ja V1 = i) (hb : V.only (V.kind V.allow) (V1.drop (i + 1)) = false) : V.jc E V1 = none := by
 unfold V.jc; rw [if_neg (by omega), h, Int.toNat_natCast, hb]; rfl
theorem zhe {E V1 : V.Bs} {i : Nat} (h : V.ja V1 = i) (hb : V.only (V.kind V.allow) (V1.drop (i + 1)) = true) :
  V.jc E V1 = if V.only (V.kind [46, 43, 126, 45]) (V1.take i) && V.dig ((V1.take i).getD 0 0) then some (E, V1.take i, V1.drop (i + 1)) else none := by
 unfold V.jc; rw [if_neg (by omega), h, Int.toNat_natCast, hb]; rfl
theorem zo0 (w : World) (c d e : Array Value) (t u v : TypeId) :
  let W := ((w.alloc (.cells c t)).alloc (.cells d u)).alloc (.cells e v)
  Below w.heap.size w W /\ (∀ i, W.cell? ⟨w.heap.size + 1, i, none⟩ = d[i]?) /\ (∀ i, W.frozen? ⟨w.heap.size + 1, i, none⟩ = false) /\
  (∀ i, W.cell? ⟨w.heap.size + 2, i, none⟩ = e[i]?) /\ (∀ i, W.frozen? ⟨w.heap.size + 2, i, none⟩ = false) /\ W.heap.size = w.heap.size + 3 := by
 refine ⟨(((zvb _ _).alloc (zva _) _).alloc (by simp) _).alloc (by simp; omega) _, fun i => ?_, fun i => ?_, fun i => ?_, fun i => ?_, by simp⟩
 ·rw [zg, if_neg (by simp), zg, if_pos (by simp)]
 ·rw [qr, if_neg (by simp), qr, if_pos (by simp)]
 ·rw [zg, if_pos (by simp)]
 ·rw [qr, if_pos (by simp)]
theorem zwg {P : Prop} (h : P := by
 obtain ⟨z0, z1, z2⟩ := set3 _ (w.heap.size + 1) _ _ _ (.string ⟨#[]⟩) (.string ⟨#[]⟩) (.string ⟨#[]⟩) x0 x1 x2
 exact bodyPost_ret (wi _ _ (w.heap.size + 1) false _ _ _ rfl rfl z0 z1 z2) rfl (by
   rw [HN.out]; exact ⟨zaq (w.heap.size + 1) HBX5.out (by omega) _ _ _, rfl⟩)) : P := h
theorem zxp {P : Prop} (h : P := by
 rw [← HLD.out]
 unfold V.ja
 rw [zk4]
 rcases Lib.lastIndexByte_spec V1 45 with ⟨h, _⟩ | ⟨i, hi, h, _⟩
 ·left; omega
 ·exact .inr ⟨i, h, hi⟩) : P := h
theorem zad (s : ByteArray) (w : World) (hm : zj w) (hs : s.size ≤ 1000) :
  Calls Tryz.prog 254 #[.agg #[], .string s] w (zno (V.zw s.data.toList) w) := by
 obtain ⟨ep, re, H, g6⟩ : ∃ a b c, V.cut1 58 s.data.toList = (a, b, c) := ⟨_, _, _, rfl⟩
 have HP : Hid (V.zw s.data.toList = if H then if V.numb ep false then V.jc ep re else none else V.jc [] s.data.toList) := zu8 (by
   unfold V.zw; rw [g6])
 have hl1 : ep.length ≤ s.size /\ re.length ≤ s.size := by
  have := yg 58 s.data.toList
  rw [g6, zh] at this
  exact this
 obtain ⟨hl1, v3⟩ := hl1
 have HX1 := zu8 g6
 clear g6
 obtain ⟨W2, h3⟩ : ∃ W2, W2 = ((w.alloc (.cells #[] 204)).alloc (.cells #[.string ⟨#[]⟩, .string ⟨#[]⟩, .string ⟨#[]⟩] 280)).alloc (.cells #[.string ⟨#[]⟩, .string ⟨#[]⟩, .string ⟨#[]⟩] 280) := ⟨_, rfl⟩
 obtain ⟨hb2, h4, h5, h6, h7, h8⟩ := zo0 w #[] #[.string ⟨#[]⟩, .string ⟨#[]⟩, .string ⟨#[]⟩] #[.string ⟨#[]⟩, .string ⟨#[]⟩, .string ⟨#[]⟩] 204 280 280
 rw [← h3] at hb2 h4 h5 h6 h7 h8
 have j8 := hm.below hb2
 have HW := zu8 h3
 have j9 := zu8 h4
 have HF2 := zu8 h5
 have k0 := zu8 h6
 have k1 := zu8 h7
 have h9 := zu8 h8
 have HB2 := zu8 hb2
 clear h3 h4 h5 h6 h7 h8 hb2
 go_enter Tryz.func254, Tryz.ntmps254
 go_wp2_with fail
 rw [← HW.out]
 refine (zcn s 58 _ j8 (by omega)).mono ?_
 rintro e w1 ⟨rfl, hb1⟩
 simp only [HX1.out]
 have j0 : w.heap.size + 1 < W2.heap.size := by rw [h9.out]; omega
 have g7 : w.heap.size + 2 < W2.heap.size := by rw [h9.out]; omega
 have hc := qy hb1 j0 j9.out
 have hf := qm hb1 j0 HF2.out
 have hd := qy hb1 g7 k0.out
 have hg := qm hb1 g7 k1.out
 have k2 := Nat.lt_of_lt_of_le g7 hb1.size
 have HB1 := zu9 HB2 hb1
 have d0 := hc 0
 have d1 := hc 1
 have d2 := hc 2
 have o0 := hd 0
 have o1 := hd 1
 have o2 := hd 2
 simp at d0 d1 d2 o0 o1 o2
 clear hb1 j8 j0 g7 hc hd
 go_upto_if 18 with (fail)
 go_cut [1] (fun v1 wx => ∃ (E : V.Bs) (V1 : ByteArray), v1 = .string V1 /\ V1.size ≤ s.size /\ wx.cell? ⟨w.heap.size + 1, 0, none⟩ = some (.string ⟨#[]⟩) /\ wx.cell? ⟨w.heap.size + 1, 1, none⟩ = some (.string ⟨#[]⟩) /\ wx.cell? ⟨w.heap.size + 1, 2, none⟩ = some (.string ⟨#[]⟩) /\
   wx.cell? ⟨w.heap.size + 1 + 1, 0, none⟩ = some (.string ⟨E.toArray⟩) /\ wx.cell? ⟨w.heap.size + 1 + 1, 1, none⟩ = some (.string ⟨#[]⟩) /\ wx.cell? ⟨w.heap.size + 1 + 1, 2, none⟩ = some (.string ⟨#[]⟩) /\
   (∀ i, wx.frozen? ⟨w.heap.size + 1, i, none⟩ = false) /\ (∀ i, wx.frozen? ⟨w.heap.size + 1 + 1, i, none⟩ = false) /\ w.heap.size + 2 < wx.heap.size /\ Below w.heap.size w wx /\ V.zw s.data.toList = V.jc E V1.data.toList)
 case first =>
  cases H with
  | false =>
   go_wp2
   go_meet
   exact ⟨[], s, rfl, zva _, d0, d1, d2, o0, o1, o2, hf, hg, k2, HB1.out, by rw [HP.out]; rfl⟩
  | true =>
   rcases k3 : V.numb ep false with _ | _
   all_goals
    have HNB := zu8 k3
    clear k3
    go_wp2_with fail
    refine (yn ⟨ep.toArray⟩ false _ (by show ep.length ≤ _; unfold maxLen; omega)).mono ?_
    rintro e w' ⟨rfl, rfl⟩
    simp only [HNB.out]
    go_wp2
   ·have HN : Hid (V.zw s.data.toList = none) := zu8 (by rw [HP.out]; simp [HNB.out])
    obtain ⟨q0, q1, q2⟩ := set3 _ (w.heap.size + 1) _ _ _ (.string ⟨#[]⟩) (.string ⟨#[]⟩) (.string ⟨#[]⟩) d0 d1 d2
    exact bodyPost_ret (wi _ _ (w.heap.size + 1) false _ _ _ rfl rfl q0 q1 q2) rfl (by
      rw [HN.out]; exact ⟨zaq (w.heap.size + 1) HB1.out (by omega) _ _ _, rfl⟩)
   ·have o : ∀ (i j : Nat), (i = 1 ∨ j ≠ 0) -> (w1.setCell ⟨w.heap.size + 2, 0, none⟩ (.string ⟨ep.toArray⟩)).cell? ⟨w.heap.size + 2 - i, j, none⟩ = w1.cell? ⟨w.heap.size + 2 - i, j, none⟩ := fun i j h => World.cell?_setCell_other _ _ _ _ (by intro e; simp at e; omega)
    go_meet
    exact ⟨ep, ⟨re.toArray⟩, rfl, v3, (o 1 0 (by omega)).trans d0, (o 1 1 (by omega)).trans d1, (o 1 2 (by omega)).trans d2, World.cell?_setCell_same _ _ _ o0, (o 0 1 (by omega)).trans o1, (o 0 2 (by omega)).trans o2,
      fun i => by rw [World.frozen?_setCell]; exact hf i, fun i => by rw [World.frozen?_setCell]; exact hg i, by simpa [World.setCell] using k2, HB1.out.setCell (p := ⟨w.heap.size + 2, 0, none⟩) (by show w.heap.size ≤ w.heap.size + 2; omega) _, by rw [HP.out]; simp [HNB.out]⟩
 case rest =>
  obtain ⟨E, V1, rfl, v4, d0', d1', d2', p0, p1, p2, k4, k5, v8, k6, g8⟩ := hcut
  have HT := zu8 g8
  have HBX := zu8 k6
  clear g8 k6 HP HX1 j9 HF2 k0 k1 h9 HB2 HW d0 d1 d2 o0 o1 o2 hf hg HB1
  go_wp2_with fail
  refine (Tryz.strings_LastIndexByte V1 45 (by omega) _).mono ?_
  rintro e w3 ⟨rfl, g9⟩
  have g1 : Lib.lastIndexByte V1 45 = V.ja V1.data.toList := by unfold V.ja; rw [zk4]
  rw [g1]
  clear g1
  obtain ⟨wo, rfl⟩ : ∃ wo : World, wo = wc := ⟨_, rfl⟩
  obtain ⟨ld, g1⟩ : ∃ ld, V.ja V1.data.toList = ld := ⟨_, rfl⟩
  have HLD := zu8 g1
  rw [g1]
  clear g1
  have g0 : Below wo.heap.size wo w3 := by rw [g9]; exact (zvb _ _).alloc (zva _) _
  have r0 := (g0.cell (p := ⟨w.heap.size + 1, 0, none⟩) (show w.heap.size + 1 < wo.heap.size by omega)).trans d0'
  have r1 := (g0.cell (p := ⟨w.heap.size + 1, 1, none⟩) (show w.heap.size + 1 < wo.heap.size by omega)).trans d1'
  have r2 := (g0.cell (p := ⟨w.heap.size + 1, 2, none⟩) (show w.heap.size + 1 < wo.heap.size by omega)).trans d2'
  have s0 := (g0.cell (p := ⟨w.heap.size + 1 + 1, 0, none⟩) (show w.heap.size + 1 + 1 < wo.heap.size by omega)).trans p0
  have s1 := (g0.cell (p := ⟨w.heap.size + 1 + 1, 1, none⟩) (show w.heap.size + 1 + 1 < wo.heap.size by omega)).trans p1
  have s2 := (g0.cell (p := ⟨w.heap.size + 1 + 1, 2, none⟩) (show w.heap.size + 1 + 1 < wo.heap.size by omega)).trans p2
  have h0 := qm g0 (show w.heap.size + 1 < wo.heap.size by omega) k4
  have hg3 := qm g0 (show w.heap.size + 1 + 1 < wo.heap.size by omega) k5
  have q0 : w3.cell? ⟨wo.heap.size, 0, none⟩ = some (.func (.func 256) #[] #[]) := by rw [g9, zg, if_pos rfl]; rfl
  have h1 : wo.heap.size < w3.heap.size := by rw [g9]; simp
  have HB3 := zu9 HBX g0
  clear g9 g0 d0' d1' d2' p0 p1 p2 k4 k5 HBX
  have g3 : (ld < 0) ∨ ∃ i : Nat, ld = i /\ i < V1.size := by
   exact zxp
  go_upto_if 29 with (fail)
  go_cut [1] (fun v1 wx => ∃ (U R : V.Bs), v1 = .string ⟨U.toArray⟩ /\ U.length ≤ s.size /\ wx.cell? ⟨w.heap.size + 1, 0, none⟩ = some (.string ⟨#[]⟩) /\ wx.cell? ⟨w.heap.size + 1, 1, none⟩ = some (.string ⟨#[]⟩) /\ wx.cell? ⟨w.heap.size + 1, 2, none⟩ = some (.string ⟨#[]⟩) /\
    wx.cell? ⟨w.heap.size + 1 + 1, 0, none⟩ = some (.string ⟨E.toArray⟩) /\ wx.cell? ⟨w.heap.size + 1 + 1, 1, none⟩ = some (.string ⟨#[]⟩) /\ wx.cell? ⟨w.heap.size + 1 + 1, 2, none⟩ = some (.string ⟨R.toArray⟩) /\
    (∀ i, wx.frozen? ⟨w.heap.size + 1, i, none⟩ = false) /\ (∀ i, wx.frozen? ⟨w.heap.size + 1 + 1, i, none⟩ = false) /\ wx.cell? ⟨wo.heap.size, 0, none⟩ = some (.func (.func 256) #[] #[]) /\ wo.heap.size < wx.heap.size /\ Below w.heap.size w wx /\
    V.zw s.data.toList = if V.only (V.kind [46, 43, 126, 45]) U && V.dig (U.getD 0 0) then some (E, U, R) else none)
  case first =>
   rcases g3 with q6 | ⟨i, rfl, hlt⟩
   ·have HN : Hid (V.ja V1.data.toList < 0) := zu8 (by rw [HLD.out]; exact q6)
    go_wp2
    go_meet
    exact ⟨V1.data.toList, [], by rw [zk4], by rw [zh]; exact v4, r0, r1, r2, s0, s1, s2, h0, hg3, q0, h1, HB3.out, by rw [HT.out, zjn HN.out]⟩
   ·have HI := HLD
    have v9 : (0 : Int) ≤ (i : Int) := by omega
    go_wp2
    go_region
    go_wp2_with fail
    have k7 : Below w.heap.size w (w3.setCell ⟨w.heap.size + 1 + 1, 2, none⟩ (.string (V1.extract (i + 1) V1.size))).drew := (HB3.out.setCell (p := ⟨w.heap.size + 1 + 1, 2, none⟩) (by show w.heap.size ≤ w.heap.size + 1 + 1; omega) _).drew
    have o : ∀ (b j : Nat), (b ≠ w.heap.size + 1 + 1 ∨ j ≠ 2) -> (w3.setCell ⟨w.heap.size + 1 + 1, 2, none⟩ (.string (V1.extract (i + 1) V1.size))).drew.cell? ⟨b, j, none⟩ = w3.cell? ⟨b, j, none⟩ := fun b j h => by
     rw [World.cell?_drew]; exact World.cell?_setCell_other _ _ _ _ (by intro e; simp at e; omega)
    have v0 := (o (w.heap.size + 1) 0 (by omega)).trans r0
    have v1 := (o (w.heap.size + 1) 1 (by omega)).trans r1
    have v2 := (o (w.heap.size + 1) 2 (by omega)).trans r2
    have t0 := (o (w.heap.size + 1 + 1) 0 (by omega)).trans s0
    have t1 := (o (w.heap.size + 1 + 1) 1 (by omega)).trans s1
    have t2 : (w3.setCell ⟨w.heap.size + 1 + 1, 2, none⟩ (.string (V1.extract (i + 1) V1.size))).drew.cell? ⟨w.heap.size + 1 + 1, 2, none⟩ = some (.string (V1.extract (i + 1) V1.size)) := by
     rw [World.cell?_drew]; exact World.cell?_setCell_same _ _ _ s2
    have qq := (o wo.heap.size 0 (by omega)).trans q0
    have h2 : ∀ i', (w3.setCell ⟨w.heap.size + 1 + 1, 2, none⟩ (.string (V1.extract (i + 1) V1.size))).drew.frozen? ⟨w.heap.size + 1, i', none⟩ = false := fun i' => by
     show (World.setCell _ _ _).frozen? _ = false
     rw [World.frozen?_setCell]; exact h0 i'
    have hg4 : ∀ i', (w3.setCell ⟨w.heap.size + 1 + 1, 2, none⟩ (.string (V1.extract (i + 1) V1.size))).drew.frozen? ⟨w.heap.size + 1 + 1, i', none⟩ = false := fun i' => by
     show (World.setCell _ _ _).frozen? _ = false
     rw [World.frozen?_setCell]; exact hg3 i'
    have hz4 : wo.heap.size < (w3.setCell ⟨w.heap.size + 1 + 1, 2, none⟩ (.string (V1.extract (i + 1) V1.size))).drew.heap.size := by
     show wo.heap.size < (World.setCell _ _ _).heap.size
     simpa [World.setCell] using h1
    have j1 : (V1.extract (i + 1) V1.size).data.toList = V1.data.toList.drop (i + 1) := by rw [Lib.extract_to_end]
    have j2 : V1.extract 0 i = ⟨(V1.data.toList.take i).toArray⟩ := yc (by rw [Lib.extract_data]; simp)
    have j3 : V1.extract (i + 1) V1.size = ⟨(V1.data.toList.drop (i + 1)).toArray⟩ := yc (by rw [j1])
    have q7 := zu8 j2
    have q8 := zu8 j3
    have v5 := zu8 j1
    clear j1 j2 j3 o r0 r1 r2 s0 s1 s2 q0 h0 hg3 h1 HB3
    generalize (w3.setCell ⟨w.heap.size + 1 + 1, 2, none⟩ (.string (V1.extract (i + 1) V1.size))).drew = W5 at *
    have HB5 := zu8 k7
    clear k7
    rcases k8 : V.only (V.kind V.allow) (V1.data.toList.drop (i + 1)) with _ | _
    all_goals
     have j4 := zu8 k8
     clear k8
     refine (znl _ _ (by unfold maxLen; simp [ByteArray.size_extract]; omega)).mono ?_
     rintro e w' ⟨rfl, rfl⟩
     simp only [v5.out, j4.out]
     go_wp2
    ·have HN : Hid (V.zw s.data.toList = none) := zu8 (by rw [HT.out, zhg HI.out j4.out])
     obtain ⟨z0, z1, z2⟩ := set3 _ (w.heap.size + 1) _ _ _ (.string ⟨#[]⟩) (.string ⟨#[]⟩) (.string ⟨#[]⟩) v0 v1 v2
     exact bodyPost_ret (wi _ _ (w.heap.size + 1) false _ _ _ rfl rfl z0 z1 z2) rfl (by
       rw [HN.out]; exact ⟨zaq (w.heap.size + 1) HB5.out (by omega) _ _ _, rfl⟩)
    ·have HN := zu8 (zhe (E := E) HI.out j4.out)
     go_meet
     exact ⟨V1.data.toList.take i, V1.data.toList.drop (i + 1), by rw [q7.out], by simp; omega, v0, v1, v2, t0, t1, by rw [t2, q8.out], h2, hg4, qq, hz4, HB5.out, by rw [HT.out, HN.out]⟩
  case rest =>
   obtain ⟨U, R, rfl, hU, v0, v1, v2, t0, t1, t2, h2, hg4, qq, hz4, k9, j5⟩ := hcut
   clear r0 r1 r2 s0 s1 s2 h0 hg3 q0 h1 HB3 g3 HT
   have g5 := zu8 j5
   have HB5 := zu8 k9
   clear j5 k9
   have o : ∀ (b j : Nat), (b ≠ w.heap.size + 1 + 1 ∨ j ≠ 1) -> (wc.setCell ⟨w.heap.size + 1 + 1, 1, none⟩ (.string ⟨U.toArray⟩)).cell? ⟨b, j, none⟩ = wc.cell? ⟨b, j, none⟩ := fun b j h =>
    World.cell?_setCell_other _ _ _ _ (by intro e; simp at e; omega)
   have x0 := (o (w.heap.size + 1) 0 (by omega)).trans v0
   have x1 := (o (w.heap.size + 1) 1 (by omega)).trans v1
   have x2 := (o (w.heap.size + 1) 2 (by omega)).trans v2
   have y0 := (o (w.heap.size + 1 + 1) 0 (by omega)).trans t0
   have y2 := (o (w.heap.size + 1 + 1) 2 (by omega)).trans t2
   have y1 : (wc.setCell ⟨w.heap.size + 1 + 1, 1, none⟩ (.string ⟨U.toArray⟩)).cell? ⟨w.heap.size + 1 + 1, 1, none⟩ = some (.string ⟨U.toArray⟩) := World.cell?_setCell_same _ _ _ t1
   have qx := (o wo.heap.size 0 (by omega)).trans qq
   have j6 : ∀ i', (wc.setCell ⟨w.heap.size + 1 + 1, 1, none⟩ (.string ⟨U.toArray⟩)).frozen? ⟨w.heap.size + 1, i', none⟩ = false := fun i' => by
    rw [World.frozen?_setCell]; exact h2 i'
   have q3 : Below w.heap.size w (wc.setCell ⟨w.heap.size + 1 + 1, 1, none⟩ (.string ⟨U.toArray⟩)) := HB5.out.setCell (p := ⟨w.heap.size + 1 + 1, 1, none⟩) (by show w.heap.size ≤ w.heap.size + 1 + 1; omega) _
   have X0 := zu8 x0
   have X1 := zu8 x1
   have X2 := zu8 x2
   have Y0 := zu8 y0
   have Y1 := zu8 y1
   have Y2 := zu8 y2
   have QX := zu8 qx
   have v6 := zu8 j6
   have HBX5 := zu8 q3
   clear o x0 x1 x2 y0 y1 y2 qx j6 q3 h2 qq
   go_wp2_with fail
   clear v0 v1 v2 t0 t1 t2 hg4
   generalize wc.setCell ⟨w.heap.size + 1 + 1, 1, none⟩ (.string ⟨U.toArray⟩) = W6 at *
   have x0 := X0.out
   have x1 := X1.out
   have x2 := X2.out
   have y0 := Y0.out
   have y1 := Y1.out
   have y2 := Y2.out
   have qx := QX.out
   have j6 := v6.out
   rcases g2 : V.only (V.kind [46, 43, 126, 45]) U with _ | _
   ·have g4 := zu8 g2
    have HN : Hid (V.zw s.data.toList = none) := zu8 (by rw [g5.out, g2]; rfl)
    clear g2
    refine (zek ⟨U.toArray⟩ _ _ (by show U.length ≤ _; unfold maxLen; omega) qx).mono ?_
    rintro e w' ⟨rfl, rfl⟩
    simp only [g4.out]
    go_wp2
    exact zwg
   ·have g4 := zu8 g2
    have q9 : 0 < U.length := by
     cases U with
     | nil => simp [V.only] at g2
     | cons => simp
    have v7 : 0 < (ByteArray.mk U.toArray).size := q9
    have q4 := zu8 (at0 v7)
    rcases q5 : V.digB (ByteArray.mk U.toArray)[0].toNat with _ | _
    all_goals
     have j7 := zu8 q5
     clear g2 q5
     refine (zek ⟨U.toArray⟩ _ _ (by show U.length ≤ _; unfold maxLen; omega) qx).mono ?_
     rintro e w' ⟨rfl, rfl⟩
     simp only [g4.out]
     go_wp2_with fail
     refine (vh _ _).mono ?_
     rintro e w' ⟨rfl, rfl⟩
     simp only [j7.out]
     go_wp2
    ·have HN : Hid (V.zw s.data.toList = none) := zu8 (by
       rw [g5.out, g4.out, if_neg]
       have : V.dig (U.getD 0 0) = false := by unfold V.dig; rw [show U.getD 0 0 = (ByteArray.mk U.toArray)[0] from q4.out]; exact j7.out
       rw [this]; simp)
     exact zwg
    ·have HN : Hid (V.zw s.data.toList = some (E, U, R)) := zu8 (by
       rw [g5.out, g4.out, if_pos]
       have : V.dig (U.getD 0 0) = true := by unfold V.dig; rw [show U.getD 0 0 = (ByteArray.mk U.toArray)[0] from q4.out]; exact j7.out
       rw [this]; simp)
     obtain ⟨z0, z1, z2⟩ := set3 _ (w.heap.size + 1) _ _ _ (.string ⟨E.toArray⟩) (.string ⟨U.toArray⟩) (.string ⟨R.toArray⟩) x0 x1 x2
     exact bodyPost_ret (wi _ _ (w.heap.size + 1) true _ _ _ rfl rfl z0 z1 z2) rfl (by
       rw [HN.out]; exact ⟨zaq (w.heap.size + 1) HBX5.out (by omega) _ _ _, rfl⟩)
theorem zng {r : Option (V.Bs × V.Bs × V.Bs)} {w : World} {e : Ending} {w' : World} (h : zno r w e w') (hr : r = none) :
  e = .returned (.tuple #[.agg #[.string ⟨#[]⟩, .string ⟨#[]⟩, .string ⟨#[]⟩], .bool false]) /\ Below w.heap.size w w' := by
 subst hr; exact ⟨h.2, h.1⟩
theorem zcb {r : Option (V.Bs × V.Bs × V.Bs)} {a b c : V.Bs} {w : World} {e : Ending} {w' : World} (h : zno r w e w') (hr : r = some (a, b, c)) :
  e = .returned (.tuple #[.agg #[.string ⟨a.toArray⟩, .string ⟨b.toArray⟩, .string ⟨c.toArray⟩], .bool true]) /\ Below w.heap.size w w' := by
 subst hr; exact ⟨h.2, h.1⟩
theorem znz (s : ByteArray) (w : World) (hm : zj w) (hs : s.size ≤ 1000) :
  Calls Tryz.prog 253 #[.agg #[], .string s] w fun e w' => e = .returned (.bool (V.zw s.data.toList).isSome) /\ Below w.heap.size w w' := by
 have g0 : Below w.heap.size w (w.alloc (.cells #[] 204)) := (zvb _ w).alloc (zva _) _
 have g1 := hm.below g0
 rcases hp : V.zw s.data.toList with _ | ⟨a, b, c⟩
 ·have HP := zu8 hp
  have HB0 := zu8 g0
  clear hp g0
  go_enter Tryz.func253, Tryz.ntmps253
  go_wp2_with fail
  refine (zad s _ g1 hs).mono ?_
  rintro e w1 h
  obtain ⟨rfl, hb1⟩ := zng h HP.out
  exact zw6
 ·have HP := zu8 hp
  have HB0 := zu8 g0
  clear hp g0
  go_enter Tryz.func253, Tryz.ntmps253
  go_wp2_with fail
  refine (zad s _ g1 hs).mono ?_
  rintro e w1 h
  obtain ⟨rfl, hb1⟩ := zcb h HP.out
  exact zw6
end Go.Proofs.YtbikeahmldobkaaGreatDoor
