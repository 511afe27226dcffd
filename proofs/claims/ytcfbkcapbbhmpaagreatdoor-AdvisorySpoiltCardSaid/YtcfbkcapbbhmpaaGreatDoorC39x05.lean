import Derived.Test.YtcfbkcapbbhmpaaGreatDoorC39x02
import Derived.Test.YtcfbkcapbbhmpaaGreatDoorC39x01
import Derived.Test.YtcfbkcapbbhmpaaGreatDoorC39x04
import Derived.Test.YtcfbkcapbbhmpaaGreatDoorC39x03
import Derived.BigRegion
import Derived.Laws.EntriesVeiled
import Derived.Deep.DeepCutAuto
import Derived.Lib.BufSteps
import Derived.OwnWalk
set_option linter.all false
set_option maxRecDepth 100000
set_option maxHeartbeats 6400000
namespace Go.Proofs.YtcfbkcapbbhmpaaGreatDoor
open Go.RowKit
theorem zks {s : ByteArray} {k : Nat} : (s.extract 0 k).data.toList = s.data.toList.take k := by
 rw [Lib.extract_data]; simp
theorem zx7 {P : Prop} (h : P := by
 go_region
 all_goals
  go_wp2
  go_ret2
  exact ⟨by rw [HF.out.1, HF.out.2]; rfl, by first | exact zwh _ _ | exact (zwh _ _).drew⟩) : P := h
theorem zzy {P : Prop} (h : P := by
 go_round
 case rel => exact ⟨k + 1, by omega, by go_num, by rw [HT.out, HP.out, HE.out]; show (true && (V.digB s[k].toNat == false)) = true; rw [HD.out]; rfl⟩
 case measure => simp [intOf]; omega) : P := h
theorem zzz {P : Prop} (h : P := by
 go_round
 case rel => exact ⟨k + 1, by omega, by go_num, by rw [HT.out, HP.out, HE.out]; show (true && (V.digB s[k].toNat == true)) = true; rw [HD.out]; rfl⟩
 case measure => simp [intOf]; omega) : P := h
theorem z1z {P : Prop} (h : P := by
 refine zwe ⟨jk ?_, jk ?_⟩
 ·rw [zks, this.1]; simp [V.zv]
 ·rw [Lib.extract_to_end, this.2]; simp [V.zv]) : P := h
theorem zgz (s : ByteArray) (d : Bool) (w : World) (hs : s.size ≤ maxLen) :
  Calls Tryz.prog 241 #[.string s, .bool d] w fun e w' => e = .returned (.tuple #[.string ⟨(V.zv s.data.toList d).1.toArray⟩, .string ⟨(V.zv s.data.toList d).2.toArray⟩]) /\ Below w.heap.size w w' := by
 unfold maxLen at hs
 go_enter Tryz.func241, Tryz.ntmps241
 go_wp2
 go_loop [6] (fun i => ∃ k : Nat, k ≤ s.size /\ i = .int .i64 k /\ (s.data.toList.take k).all (fun c => V.dig c == d) = true) (fun i => s.size - (intOf i).toNat)
 case atStart => exact ⟨0, Nat.zero_le _, rfl, rfl⟩
 case round =>
  obtain ⟨k, hk, rfl, hp⟩ := hrel
  have HP := zwe hp
  clear hp
  have fin : (k = s.size ∨ ∃ h : k < s.size, (V.digB s[k].toNat == d) = false) -> Hid (s.extract 0 k = ⟨(V.zv s.data.toList d).1.toArray⟩ /\ s.extract k s.size = ⟨(V.zv s.data.toList d).2.toArray⟩) := fun h => by
   have := V.zt9 s.data.toList (fun c => V.dig c == d) k (by rw [zf]; exact hk) HP.out (by
     rcases h with h | ⟨h, h2⟩
     · left; rw [zf]; exact h
     · right
       have e : s.data.toList[k]'(by rw [zf]; exact h) = s[k] := by simp; rfl
       exact ⟨by rw [zf]; exact h, by rw [e]; exact h2⟩)
   exact z1z
  have FIN := zwe fin
  clear fin
  by_cases hlt : k < s.size
  ·have hl : k < s.data.toList.length := by rw [zf]; exact hlt
   have HT := zwe (V.zc1 (p := fun c => V.dig c == d) hl)
   have HE : Hid (s.data.toList[k] = s[k]) := zwe (by simp; rfl)
   rcases hD : V.digB s[k].toNat with _ | _ <;> cases d
   all_goals
    have HD := zwe hD
    clear hD
    go_wp2_with fail
    refine (zak _ _).mono ?_
    rintro e w' ⟨rfl, rfl⟩
    simp only [HD.out]
    go_wp2
   ·exact zzy
   ·have HF := FIN.out (.inr ⟨hlt, by rw [HD.out]; rfl⟩)
    exact zx7
   ·have HF := FIN.out (.inr ⟨hlt, by rw [HD.out]; rfl⟩)
    exact zx7
   ·exact zzz
  ·have HF := FIN.out (.inl (by omega))
   go_wp2
   exact zx7
theorem or128 (c : UInt8) : bits .or .u8 (c.toNat : Int) 128 = ((c ||| 128).toNat : Int) := by
 have h : ∀ n : Fin 256, bits .or .u8 ((n.val : Nat) : Int) 128 = (((n.val ||| 128 : Nat)) : Int) := by decide +kernel
 have := h ⟨c.toNat, c.toNat_lt⟩
 rw [this, UInt8.toNat_or]; rfl
theorem zum {s : ByteArray} {i : Nat} (h : i < s.size) : s.data.toList.getD i 0 = s[i] := by
 have : i < s.data.toList.length := by rw [zf]; exact h
 simp [List.getD, List.getElem?_eq_getElem this]; rfl
theorem z1c {P : Prop} (h : P := by
 go_enter Tryz.func243, Tryz.ntmps243
 go_wp2
 go_ret
 exact ⟨zp HW.out.symm, rfl⟩) : P := h
theorem z13 {P : Prop} (h : P := by
 rw [zwi]; intro e; apply h1; rw [← UInt8.toNat_inj]
 have : s[i].toNat = 126 := by omega
 rw [this]; rfl) : P := h
theorem zlk (s : ByteArray) (i : Nat) (w : World) (_hs : s.size ≤ maxLen) (_hi : i ≤ maxLen) :
  Calls Tryz.prog 243 #[.string s, .int .i64 i] w fun e w' => e = .returned (.int .u8 (V.wt s.data.toList i)) /\ w = w' := by
 unfold maxLen at _hs _hi
 by_cases hlt : i < s.size
 ·have HG := zwe (zum hlt)
  by_cases h1 : s[i] = 126
  ·have HW : Hid (V.wt s.data.toList i = 1) := zwe (by unfold V.wt; rw [if_neg (by rw [zf]; omega), HG.out, if_pos h1])
   have hb : ((s[i].toNat : Int) == 126) = true := by rw [h1]; rfl
   clear h1
   exact z1c
  ·have hb : ((s[i].toNat : Int) == 126) = false := by
    exact z13
   rcases hL : V.letB s[i].toNat with _ | _
   ·have HW : Hid (V.wt s.data.toList i = (s[i] ||| 128).toNat) := zwe (by
      unfold V.wt; rw [if_neg (by rw [zf]; omega), HG.out, if_neg h1, if_neg]
      unfold V.lett; rw [hL]; simp)
    have HL := zwe hL
    clear hL h1
    go_enter Tryz.func243, Tryz.ntmps243
    go_wp2_with fail
    refine (zdn _ _).mono ?_
    rintro e w' ⟨rfl, rfl⟩
    simp only [HL.out]
    go_wp2
    go_ret
    refine ⟨?_, rfl⟩
    rw [HW.out, ← or128]
    rfl
   ·have HW : Hid (V.wt s.data.toList i = s[i].toNat) := zwe (by
      unfold V.wt; rw [if_neg (by rw [zf]; omega), HG.out, if_neg h1, if_pos]
      unfold V.lett; rw [hL])
    have HL := zwe hL
    clear hL h1
    go_enter Tryz.func243, Tryz.ntmps243
    go_wp2_with fail
    refine (zdn _ _).mono ?_
    rintro e w' ⟨rfl, rfl⟩
    simp only [HL.out]
    go_wp2
    go_ret
    exact ⟨zp HW.out.symm, rfl⟩
 ·have HW : Hid (V.wt s.data.toList i = 2) := zwe (by unfold V.wt; rw [if_pos (by rw [zf]; omega)])
  exact z1c
theorem zro (x : Int) (w : World) :
  Calls Tryz.prog 244 #[.int .u8 x] w fun e w' => e = .returned (.bool false) /\ w = w' := by
 have h : (x != x) = false := by simp
 go_enter Tryz.func244, Tryz.ntmps244
 go_wp2
 go_ret
 exact ⟨zc (by simp), rfl⟩
theorem zri (x y : Int) (w : World) :
  Calls Tryz.prog 242 #[.int .u8 x, .int .u8 y] w fun e w' => e = .returned (.int .i64 (Lib.compareInt x y)) /\ w = w' := by
 go_enter Tryz.func242, Tryz.ntmps242
 go_wp2_with (go_at_call 244; refine (zro _ _).mono ?_; rintro e w' ⟨rfl, rfl⟩)
 all_goals go_ret
 all_goals exact ⟨zp (by unfold Lib.compareInt; (repeat' split) <;> omega), rfl⟩
theorem zjj (c : UInt8) (n : Nat) (h : n < 256) : decide (c = UInt8.ofNat n) = ((c.toNat : Int) == (n : Int)) := by
 rw [Bool.eq_iff_iff]
 simp only [decide_eq_true_eq, beq_iff_eq]
 rw [← UInt8.toNat_inj, UInt8.toNat_ofNat']
 have : n % 2 ^ 8 = n := Nat.mod_eq_of_lt h
 rw [this]; omega
theorem kind3 (c : UInt8) : V.kind V.allow c = (V.letB c.toNat || V.digB c.toNat || ((c.toNat : Int) == 46) || ((c.toNat : Int) == 43) || ((c.toNat : Int) == 126)) := by
 unfold V.kind V.lett V.dig V.allow
 have h1 := zjj c 46 (by omega)
 have h2 := zjj c 43 (by omega)
 have h3 := zjj c 126 (by omega)
 have e : decide (c ∈ [46, 43, 126]) = (decide (c = UInt8.ofNat 46) || decide (c = UInt8.ofNat 43) || decide (c = UInt8.ofNat 126)) := by
  rw [Bool.eq_iff_iff]; simp; rw [or_assoc]
 rw [e, h1, h2, h3]
 simp [Bool.or_assoc]
theorem kind4 (c : UInt8) : V.kind [46, 43, 126, 45] c = (V.kind V.allow c || ((c.toNat : Int) == 45)) := by
 have h1 := zjj c 45 (by omega)
 have e : ((c.toNat : Int) == 45) = decide (c = UInt8.ofNat 45) := h1.symm
 rw [e]
 unfold V.kind V.allow
 rw [Bool.eq_iff_iff]; simp; constructor
 ·rintro (h | h | h | h | h)
  ·exact .inl (.inl h)
  ·exact .inl (.inr (.inl h))
  ·exact .inl (.inr (.inr (.inl h)))
  ·exact .inl (.inr (.inr (.inr h)))
  ·exact .inr h
 ·rintro ((h | h | h | h) | h)
  ·exact .inl h
  ·exact .inr (.inl h)
  ·exact .inr (.inr (.inl h))
  ·exact .inr (.inr (.inr (.inl h)))
  ·exact .inr (.inr (.inr (.inr h)))
theorem zi5 (c : UInt8) (w : World) :
  Calls Tryz.prog 238 #[.int .u8 c.toNat] w fun e w' => e = .returned (.bool (V.kind V.allow c)) /\ w = w' := by
 have HK := zwe (kind3 c)
 generalize hn : (c.toNat : Int) = x at *
 clear hn
 rcases hD : V.digB x with _ | _
 ·have HD := zwe hD
  rcases hL : V.letB x with _ | _
  all_goals
   have HL := zwe hL
   rw [hD, hL] at HK
   clear hD hL
   go_enter Tryz.func238, Tryz.ntmps238
   go_wp2_with fail
   refine (zak _ _).mono ?_
   rintro e w' ⟨rfl, rfl⟩
   simp only [HD.out]
   go_wp2_with fail
   refine (zdn _ _).mono ?_
   rintro e w' ⟨rfl, rfl⟩
   simp only [HL.out]
   go_wp2
   all_goals
    go_ret
    exact ⟨zc (by rw [HK.out]; simp_all), rfl⟩
 ·have HD := zwe hD
  rw [hD] at HK
  clear hD
  go_enter Tryz.func238, Tryz.ntmps238
  exact z0w
theorem zp7 (s : ByteArray) (w : World) (hs : s.size ≤ maxLen) :
  Calls Tryz.prog 217 #[.string s, .func (.func 238) #[] #[]] w fun e w' => e = .returned (.bool (V.only (V.kind V.allow) s.data.toList)) /\ w = w' :=
 zg7 s _ #[] (V.kind V.allow) w hs (enters_of Tryz.func238 (by kernel_rfl) rfl) (fun c => zi5 c w)
theorem zqh (c : UInt8) (q : Nat) (w : World) (hq : w.cell? ⟨q, 0, none⟩ = some (.func (.func 238) #[] #[])) :
  Calls Tryz.prog 240 #[.int .u8 c.toNat, .pointer (some ⟨q, 0, none⟩)] w fun e w' => e = .returned (.bool (V.kind [46, 43, 126, 45] c)) /\ w = w' := by
 have HK := zwe (kind4 c)
 rcases hA : V.kind V.allow c with _ | _
 all_goals
  have HA := zwe hA
  rw [hA] at HK
  clear hA
  go_enter Tryz.func240, Tryz.ntmps240
  go_wp2_with fail
  refine (zi5 _ _).mono ?_
  rintro e w' ⟨rfl, rfl⟩
  simp only [HA.out]
  go_wp2
  go_ret
  exact ⟨zc (by rw [HK.out]; simp), rfl⟩
theorem zfp (s : ByteArray) (q : Nat) (w : World) (hs : s.size ≤ maxLen) (hq : w.cell? ⟨q, 0, none⟩ = some (.func (.func 238) #[] #[])) :
  Calls Tryz.prog 217 #[.string s, .func (.func 240) #[] #[.pointer (some ⟨q, 0, none⟩)]] w fun e w' => e = .returned (.bool (V.only (V.kind [46, 43, 126, 45]) s.data.toList)) /\ w = w' :=
 zg7 s _ #[.pointer (some ⟨q, 0, none⟩)] (V.kind [46, 43, 126, 45]) w hs (enters_of Tryz.func240 (by kernel_rfl) rfl) (fun c => zqh c q w hq)
open Go.RowKit
def zqa (r : Option (V.Bs × V.Bs × V.Bs)) (w : World) (e : Ending) (w' : World) : Prop :=
 Below w.heap.size w w' /\ match r with
 | none => e = .returned (.tuple #[.agg #[.string ⟨#[]⟩, .string ⟨#[]⟩, .string ⟨#[]⟩], .bool false])
 | some (a, b, c) => e = .returned (.tuple #[.agg #[.string ⟨a.toArray⟩, .string ⟨b.toArray⟩, .string ⟨c.toArray⟩], .bool true])
theorem za1 (tmps : Array Value) (w : World) (b : Nat) (x : Bool) (v0 v1 v2 : Value) (h4 : tmps.getD 4 undef = .pointer (some ⟨b, 0, none⟩)) (h5 : tmps.getD 5 undef = .bool x)
  (c0 : w.cell? ⟨b, 0, none⟩ = some v0) (c1 : w.cell? ⟨b, 1, none⟩ = some v1) (c2 : w.cell? ⟨b, 2, none⟩ = some v2) :
  (results Tryz.f236 tmps).run Tryz.prog w = .ok (.tuple #[.agg #[v0, v1, v2], .bool x]) w := by
 have h4' : tmps[4]?.getD undef = .pointer (some ⟨b, 0, none⟩) := by simpa using h4
 have h5' : tmps[5]?.getD undef = .bool x := by simpa using h5
 simp [results, Tryz.results236, go_sem, h4', h5', c0, c1, c2]
theorem set3 (w : World) (b : Nat) (u0 u1 u2 v0 v1 v2 : Value) (c0 : w.cell? ⟨b, 0, none⟩ = some u0) (c1 : w.cell? ⟨b, 1, none⟩ = some u1) (c2 : w.cell? ⟨b, 2, none⟩ = some u2) :
  let W := ((w.setCell ⟨b, 0, none⟩ v0).setCell ⟨b, 1, none⟩ v1).setCell ⟨b, 2, none⟩ v2
  W.cell? ⟨b, 0, none⟩ = some v0 /\ W.cell? ⟨b, 1, none⟩ = some v1 /\ W.cell? ⟨b, 2, none⟩ = some v2 := by
 have o : ∀ (W : World) (i j : Nat) (v : Value), i ≠ j -> (W.setCell ⟨b, i, none⟩ v).cell? ⟨b, j, none⟩ = W.cell? ⟨b, j, none⟩ := fun W i j v h => World.cell?_setCell_other _ _ _ _ (by simp )
 refine ⟨?_, ?_, ?_⟩
 ·rw [o _ 2 0 _ (by omega), o _ 1 0 _ (by omega)]
  exact World.cell?_setCell_same _ _ _ c0
 ·rw [o _ 2 1 _ (by omega)]
  exact World.cell?_setCell_same _ _ _ ((o _ 0 1 _ (by omega)).trans c1)
 ·exact z18
theorem zbu {w0 w : World} (b : Nat) (h : Below w0.heap.size w0 w) (hb : w0.heap.size ≤ b) (v0 v1 v2 : Value) :
  Below w0.heap.size w0 (((w.setCell ⟨b, 0, none⟩ v0).setCell ⟨b, 1, none⟩ v1).setCell ⟨b, 2, none⟩ v2) :=
 ((h.setCell (p := ⟨b, 0, none⟩) hb _).setCell (p := ⟨b, 1, none⟩) hb _).setCell (p := ⟨b, 2, none⟩) hb _
theorem zly {E V1 : V.Bs} (h : V.jg V1 < 0) : V.jq E V1 = if V.only (V.kind [46, 43, 126, 45]) V1 && V.dig (V1.getD 0 0) then some (E, V1, []) else none := by
 unfold V.jq; rw [if_pos h]
theorem zi8 {E V1 : V.Bs} {i : Nat} (h : V.jg V1 = i) (hb : V.only (V.kind V.allow) (V1.drop (i + 1)) = false) : V.jq E V1 = none := by
 unfold V.jq; rw [if_neg (by omega), h, Int.toNat_natCast, hb]; rfl
theorem zi6 {E V1 : V.Bs} {i : Nat} (h : V.jg V1 = i) (hb : V.only (V.kind V.allow) (V1.drop (i + 1)) = true) :
  V.jq E V1 = if V.only (V.kind [46, 43, 126, 45]) (V1.take i) && V.dig ((V1.take i).getD 0 0) then some (E, V1.take i, V1.drop (i + 1)) else none := by
 unfold V.jq; rw [if_neg (by omega), h, Int.toNat_natCast, hb]; rfl
theorem zrg (w : World) (c d e : Array Value) (t u v : TypeId) :
  let W := ((w.alloc (.cells c t)).alloc (.cells d u)).alloc (.cells e v)
  Below w.heap.size w W /\ (∀ i, W.cell? ⟨w.heap.size + 1, i, none⟩ = d[i]?) /\ (∀ i, W.frozen? ⟨w.heap.size + 1, i, none⟩ = false) /\
  (∀ i, W.cell? ⟨w.heap.size + 2, i, none⟩ = e[i]?) /\ (∀ i, W.frozen? ⟨w.heap.size + 2, i, none⟩ = false) /\ W.heap.size = w.heap.size + 3 := by
 refine ⟨(((zwh _ _).alloc (zwg _) _).alloc (by simp) _).alloc (by simp; omega) _, fun i => ?_, fun i => ?_, fun i => ?_, fun i => ?_, by simp⟩
 ·rw [ze, if_neg (by simp), ze, if_pos (by simp)]
 ·rw [zz, if_neg (by simp), zz, if_pos (by simp)]
 ·rw [ze, if_pos (by simp)]
 ·rw [zz, if_pos (by simp)]
theorem zy0 {P : Prop} (h : P := by
 obtain ⟨z0, z1, z2⟩ := set3 _ (w.heap.size + 1) _ _ _ (.string ⟨#[]⟩) (.string ⟨#[]⟩) (.string ⟨#[]⟩) x0 x1 x2
 exact bodyPost_ret (za1 _ _ (w.heap.size + 1) false _ _ _ rfl rfl z0 z1 z2) rfl (by
   rw [HN.out]; exact ⟨zbu (w.heap.size + 1) HBX5.out (by omega) _ _ _, rfl⟩)) : P := h
theorem z0m {P : Prop} (h : P := by
 rw [← HLD.out]
 unfold V.jg
 rw [zj9]
 rcases Lib.lastIndexByte_spec V1 45 with ⟨h, _⟩ | ⟨i, hi, h, _⟩
 ·left; omega
 ·exact .inr ⟨i, h, hi⟩) : P := h
theorem zbg (s : ByteArray) (w : World) (hm : zg w) (hs : s.size ≤ 1000) :
  Calls Tryz.prog 236 #[.agg #[], .string s] w (zqa (V.zu s.data.toList) w) := by
 obtain ⟨ep, re, H, hx1⟩ : ∃ a b c, V.cut1 58 s.data.toList = (a, b, c) := ⟨_, _, _, rfl⟩
 have HP : Hid (V.zu s.data.toList = if H then if V.numb ep false then V.jq ep re else none else V.jq [] s.data.toList) := zwe (by
   unfold V.zu; rw [hx1])
 have hl1 : ep.length ≤ s.size /\ re.length ≤ s.size := by
  have := uo 58 s.data.toList
  rw [hx1, zf] at this
  exact this
 obtain ⟨hl1, hl2⟩ := hl1
 have HX1 := zwe hx1
 clear hx1
 obtain ⟨W2, hW2⟩ : ∃ W2, W2 = ((w.alloc (.cells #[] 184)).alloc (.cells #[.string ⟨#[]⟩, .string ⟨#[]⟩, .string ⟨#[]⟩] 247)).alloc (.cells #[.string ⟨#[]⟩, .string ⟨#[]⟩, .string ⟨#[]⟩] 247) := ⟨_, rfl⟩
 obtain ⟨hb2, hc2, hf2, hd2, hg2, hz2⟩ := zrg w #[] #[.string ⟨#[]⟩, .string ⟨#[]⟩, .string ⟨#[]⟩] #[.string ⟨#[]⟩, .string ⟨#[]⟩, .string ⟨#[]⟩] 184 247 247
 rw [← hW2] at hb2 hc2 hf2 hd2 hg2 hz2
 have hm2 := hm.below hb2
 have HW := zwe hW2
 have HC2 := zwe hc2
 have HF2 := zwe hf2
 have HD2 := zwe hd2
 have HG2 := zwe hg2
 have HZ2 := zwe hz2
 have HB2 := zwe hb2
 clear hW2 hc2 hf2 hd2 hg2 hz2 hb2
 go_enter Tryz.func236, Tryz.ntmps236
 go_wp2_with fail
 rw [← HW.out]
 refine (zdm s 58 _ hm2 (by omega)).mono ?_
 rintro e w1 ⟨rfl, hb1⟩
 simp only [HX1.out]
 have hn1 : w.heap.size + 1 < W2.heap.size := by rw [HZ2.out]; omega
 have hn2 : w.heap.size + 2 < W2.heap.size := by rw [HZ2.out]; omega
 have hc := je hb1 hn1 HC2.out
 have hf := qo hb1 hn1 HF2.out
 have hd := je hb1 hn2 HD2.out
 have hg := qo hb1 hn2 HG2.out
 have hn3 := Nat.lt_of_lt_of_le hn2 hb1.size
 have HB1 := zwf HB2 hb1
 have d0 := hc 0
 have d1 := hc 1
 have d2 := hc 2
 have o0 := hd 0
 have o1 := hd 1
 have o2 := hd 2
 simp at d0 d1 d2 o0 o1 o2
 clear hb1 hm2 hn1 hn2 hc hd
 go_upto_if 18 with (fail)
 go_cut [1] (fun v1 wx => ∃ (E : V.Bs) (V1 : ByteArray), v1 = .string V1 /\ V1.size ≤ s.size /\ wx.cell? ⟨w.heap.size + 1, 0, none⟩ = some (.string ⟨#[]⟩) /\ wx.cell? ⟨w.heap.size + 1, 1, none⟩ = some (.string ⟨#[]⟩) /\ wx.cell? ⟨w.heap.size + 1, 2, none⟩ = some (.string ⟨#[]⟩) /\
   wx.cell? ⟨w.heap.size + 1 + 1, 0, none⟩ = some (.string ⟨E.toArray⟩) /\ wx.cell? ⟨w.heap.size + 1 + 1, 1, none⟩ = some (.string ⟨#[]⟩) /\ wx.cell? ⟨w.heap.size + 1 + 1, 2, none⟩ = some (.string ⟨#[]⟩) /\
   (∀ i, wx.frozen? ⟨w.heap.size + 1, i, none⟩ = false) /\ (∀ i, wx.frozen? ⟨w.heap.size + 1 + 1, i, none⟩ = false) /\ w.heap.size + 2 < wx.heap.size /\ Below w.heap.size w wx /\ V.zu s.data.toList = V.jq E V1.data.toList)
 case first =>
  cases H with
  | false =>
   go_wp2
   go_meet
   exact ⟨[], s, rfl, zwg _, d0, d1, d2, o0, o1, o2, hf, hg, hn3, HB1.out, by rw [HP.out]; rfl⟩
  | true =>
   rcases hnb : V.numb ep false with _ | _
   all_goals
    have HNB := zwe hnb
    clear hnb
    go_wp2_with fail
    refine (vj ⟨ep.toArray⟩ false _ (by show ep.length ≤ _; unfold maxLen; omega)).mono ?_
    rintro e w' ⟨rfl, rfl⟩
    simp only [HNB.out]
    go_wp2
   ·have HN : Hid (V.zu s.data.toList = none) := zwe (by rw [HP.out]; simp [HNB.out])
    obtain ⟨q0, q1, q2⟩ := set3 _ (w.heap.size + 1) _ _ _ (.string ⟨#[]⟩) (.string ⟨#[]⟩) (.string ⟨#[]⟩) d0 d1 d2
    exact bodyPost_ret (za1 _ _ (w.heap.size + 1) false _ _ _ rfl rfl q0 q1 q2) rfl (by
      rw [HN.out]; exact ⟨zbu (w.heap.size + 1) HB1.out (by omega) _ _ _, rfl⟩)
   ·have o : ∀ (i j : Nat), (i = 1 ∨ j ≠ 0) -> (w1.setCell ⟨w.heap.size + 2, 0, none⟩ (.string ⟨ep.toArray⟩)).cell? ⟨w.heap.size + 2 - i, j, none⟩ = w1.cell? ⟨w.heap.size + 2 - i, j, none⟩ := fun i j h => World.cell?_setCell_other _ _ _ _ (by intro e; simp at e; omega)
    go_meet
    exact ⟨ep, ⟨re.toArray⟩, rfl, hl2, (o 1 0 (by omega)).trans d0, (o 1 1 (by omega)).trans d1, (o 1 2 (by omega)).trans d2, World.cell?_setCell_same _ _ _ o0, (o 0 1 (by omega)).trans o1, (o 0 2 (by omega)).trans o2,
      fun i => by rw [World.frozen?_setCell]; exact hf i, fun i => by rw [World.frozen?_setCell]; exact hg i, by simpa [World.setCell] using hn3, HB1.out.setCell (p := ⟨w.heap.size + 2, 0, none⟩) (by show w.heap.size ≤ w.heap.size + 2; omega) _, by rw [HP.out]; simp [HNB.out]⟩
 case rest =>
  obtain ⟨E, V1, rfl, hsz, d0', d1', d2', p0, p1, p2, hf', hg', hn3', hB', htail⟩ := hcut
  have HT := zwe htail
  have HBX := zwe hB'
  clear htail hB' HP HX1 HC2 HF2 HD2 HG2 HZ2 HB2 HW d0 d1 d2 o0 o1 o2 hf hg HB1
  go_wp2_with fail
  refine (Tryz.strings_LastIndexByte V1 45 (by omega) _).mono ?_
  rintro e w3 ⟨rfl, hw3⟩
  have hld : Lib.lastIndexByte V1 45 = V.jg V1.data.toList := by unfold V.jg; rw [zj9]
  rw [hld]
  clear hld
  obtain ⟨wo, rfl⟩ : ∃ wo : World, wo = wc := ⟨_, rfl⟩
  obtain ⟨ld, hld⟩ : ∃ ld, V.jg V1.data.toList = ld := ⟨_, rfl⟩
  have HLD := zwe hld
  rw [hld]
  clear hld
  have hb4 : Below wo.heap.size wo w3 := by rw [hw3]; exact (zwh _ _).alloc (zwg _) _
  have r0 := (hb4.cell (p := ⟨w.heap.size + 1, 0, none⟩) (show w.heap.size + 1 < wo.heap.size by omega)).trans d0'
  have r1 := (hb4.cell (p := ⟨w.heap.size + 1, 1, none⟩) (show w.heap.size + 1 < wo.heap.size by omega)).trans d1'
  have r2 := (hb4.cell (p := ⟨w.heap.size + 1, 2, none⟩) (show w.heap.size + 1 < wo.heap.size by omega)).trans d2'
  have s0 := (hb4.cell (p := ⟨w.heap.size + 1 + 1, 0, none⟩) (show w.heap.size + 1 + 1 < wo.heap.size by omega)).trans p0
  have s1 := (hb4.cell (p := ⟨w.heap.size + 1 + 1, 1, none⟩) (show w.heap.size + 1 + 1 < wo.heap.size by omega)).trans p1
  have s2 := (hb4.cell (p := ⟨w.heap.size + 1 + 1, 2, none⟩) (show w.heap.size + 1 + 1 < wo.heap.size by omega)).trans p2
  have hf3 := qo hb4 (show w.heap.size + 1 < wo.heap.size by omega) hf'
  have hg3 := qo hb4 (show w.heap.size + 1 + 1 < wo.heap.size by omega) hg'
  have q0 : w3.cell? ⟨wo.heap.size, 0, none⟩ = some (.func (.func 238) #[] #[]) := by rw [hw3, ze, if_pos rfl]; rfl
  have hz3 : wo.heap.size < w3.heap.size := by rw [hw3]; simp
  have HB3 := zwf HBX hb4
  clear hw3 hb4 d0' d1' d2' p0 p1 p2 hf' hg' HBX
  have hsplit : (ld < 0) ∨ ∃ i : Nat, ld = i /\ i < V1.size := by
   exact z0m
  go_upto_if 29 with (fail)
  go_cut [1] (fun v1 wx => ∃ (U R : V.Bs), v1 = .string ⟨U.toArray⟩ /\ U.length ≤ s.size /\ wx.cell? ⟨w.heap.size + 1, 0, none⟩ = some (.string ⟨#[]⟩) /\ wx.cell? ⟨w.heap.size + 1, 1, none⟩ = some (.string ⟨#[]⟩) /\ wx.cell? ⟨w.heap.size + 1, 2, none⟩ = some (.string ⟨#[]⟩) /\
    wx.cell? ⟨w.heap.size + 1 + 1, 0, none⟩ = some (.string ⟨E.toArray⟩) /\ wx.cell? ⟨w.heap.size + 1 + 1, 1, none⟩ = some (.string ⟨#[]⟩) /\ wx.cell? ⟨w.heap.size + 1 + 1, 2, none⟩ = some (.string ⟨R.toArray⟩) /\
    (∀ i, wx.frozen? ⟨w.heap.size + 1, i, none⟩ = false) /\ (∀ i, wx.frozen? ⟨w.heap.size + 1 + 1, i, none⟩ = false) /\ wx.cell? ⟨wo.heap.size, 0, none⟩ = some (.func (.func 238) #[] #[]) /\ wo.heap.size < wx.heap.size /\ Below w.heap.size w wx /\
    V.zu s.data.toList = if V.only (V.kind [46, 43, 126, 45]) U && V.dig (U.getD 0 0) then some (E, U, R) else none)
  case first =>
   rcases hsplit with hneg | ⟨i, rfl, hlt⟩
   ·have HN : Hid (V.jg V1.data.toList < 0) := zwe (by rw [HLD.out]; exact hneg)
    go_wp2
    go_meet
    exact ⟨V1.data.toList, [], by rw [zj9], by rw [zf]; exact hsz, r0, r1, r2, s0, s1, s2, hf3, hg3, q0, hz3, HB3.out, by rw [HT.out, zly HN.out]⟩
   ·have HI := HLD
    have hge : (0 : Int) ≤ (i : Int) := by omega
    go_wp2
    go_region
    go_wp2_with fail
    have hbd : Below w.heap.size w (w3.setCell ⟨w.heap.size + 1 + 1, 2, none⟩ (.string (V1.extract (i + 1) V1.size))).drew := (HB3.out.setCell (p := ⟨w.heap.size + 1 + 1, 2, none⟩) (by show w.heap.size ≤ w.heap.size + 1 + 1; omega) _).drew
    have o : ∀ (b j : Nat), (b ≠ w.heap.size + 1 + 1 ∨ j ≠ 2) -> (w3.setCell ⟨w.heap.size + 1 + 1, 2, none⟩ (.string (V1.extract (i + 1) V1.size))).drew.cell? ⟨b, j, none⟩ = w3.cell? ⟨b, j, none⟩ := fun b j h => by
     rw [World.cell?_drew]; exact World.cell?_setCell_other _ _ _ _ (by intro e; simp at e; omega)
    have v0 := (o (w.heap.size + 1) 0 (by omega)).trans r0
    have v1 := (o (w.heap.size + 1) 1 (by omega)).trans r1
    have v2 := (o (w.heap.size + 1) 2 (by omega)).trans r2
    have t0 := (o (w.heap.size + 1 + 1) 0 (by omega)).trans s0
    have t1 := (o (w.heap.size + 1 + 1) 1 (by omega)).trans s1
    have t2 : (w3.setCell ⟨w.heap.size + 1 + 1, 2, none⟩ (.string (V1.extract (i + 1) V1.size))).drew.cell? ⟨w.heap.size + 1 + 1, 2, none⟩ = some (.string (V1.extract (i + 1) V1.size)) := by
     rw [World.cell?_drew]; exact World.cell?_setCell_same _ _ _ s2
    have qq := (o wo.heap.size 0 (by omega)).trans q0
    have hf4 : ∀ i', (w3.setCell ⟨w.heap.size + 1 + 1, 2, none⟩ (.string (V1.extract (i + 1) V1.size))).drew.frozen? ⟨w.heap.size + 1, i', none⟩ = false := fun i' => by
     show (World.setCell _ _ _).frozen? _ = false
     rw [World.frozen?_setCell]; exact hf3 i'
    have hg4 : ∀ i', (w3.setCell ⟨w.heap.size + 1 + 1, 2, none⟩ (.string (V1.extract (i + 1) V1.size))).drew.frozen? ⟨w.heap.size + 1 + 1, i', none⟩ = false := fun i' => by
     show (World.setCell _ _ _).frozen? _ = false
     rw [World.frozen?_setCell]; exact hg3 i'
    have hz4 : wo.heap.size < (w3.setCell ⟨w.heap.size + 1 + 1, 2, none⟩ (.string (V1.extract (i + 1) V1.size))).drew.heap.size := by
     show wo.heap.size < (World.setCell _ _ _).heap.size
     simpa [World.setCell] using hz3
    have hex : (V1.extract (i + 1) V1.size).data.toList = V1.data.toList.drop (i + 1) := by rw [Lib.extract_to_end]
    have hex0 : V1.extract 0 i = ⟨(V1.data.toList.take i).toArray⟩ := jk (by rw [Lib.extract_data]; simp)
    have hex1 : V1.extract (i + 1) V1.size = ⟨(V1.data.toList.drop (i + 1)).toArray⟩ := jk (by rw [hex])
    have HEX0 := zwe hex0
    have HEX1 := zwe hex1
    have HEX := zwe hex
    clear hex hex0 hex1 o r0 r1 r2 s0 s1 s2 q0 hf3 hg3 hz3 HB3
    generalize (w3.setCell ⟨w.heap.size + 1 + 1, 2, none⟩ (.string (V1.extract (i + 1) V1.size))).drew = W5 at *
    have HB5 := zwe hbd
    clear hbd
    rcases hrv : V.only (V.kind V.allow) (V1.data.toList.drop (i + 1)) with _ | _
    all_goals
     have HRV := zwe hrv
     clear hrv
     refine (zp7 _ _ (by unfold maxLen; simp [ByteArray.size_extract]; omega)).mono ?_
     rintro e w' ⟨rfl, rfl⟩
     simp only [HEX.out, HRV.out]
     go_wp2
    ·have HN : Hid (V.zu s.data.toList = none) := zwe (by rw [HT.out, zi8 HI.out HRV.out])
     obtain ⟨z0, z1, z2⟩ := set3 _ (w.heap.size + 1) _ _ _ (.string ⟨#[]⟩) (.string ⟨#[]⟩) (.string ⟨#[]⟩) v0 v1 v2
     exact bodyPost_ret (za1 _ _ (w.heap.size + 1) false _ _ _ rfl rfl z0 z1 z2) rfl (by
       rw [HN.out]; exact ⟨zbu (w.heap.size + 1) HB5.out (by omega) _ _ _, rfl⟩)
    ·have HN := zwe (zi6 (E := E) HI.out HRV.out)
     go_meet
     exact ⟨V1.data.toList.take i, V1.data.toList.drop (i + 1), by rw [HEX0.out], by simp; omega, v0, v1, v2, t0, t1, by rw [t2, HEX1.out], hf4, hg4, qq, hz4, HB5.out, by rw [HT.out, HN.out]⟩
  case rest =>
   obtain ⟨U, R, rfl, hU, v0, v1, v2, t0, t1, t2, hf4, hg4, qq, hz4, hB5, hfin⟩ := hcut
   clear r0 r1 r2 s0 s1 s2 hf3 hg3 q0 hz3 HB3 hsplit HT
   have HFIN := zwe hfin
   have HB5 := zwe hB5
   clear hfin hB5
   have o : ∀ (b j : Nat), (b ≠ w.heap.size + 1 + 1 ∨ j ≠ 1) -> (wc.setCell ⟨w.heap.size + 1 + 1, 1, none⟩ (.string ⟨U.toArray⟩)).cell? ⟨b, j, none⟩ = wc.cell? ⟨b, j, none⟩ := fun b j h =>
    World.cell?_setCell_other _ _ _ _ (by intro e; simp at e; omega)
   have x0 := (o (w.heap.size + 1) 0 (by omega)).trans v0
   have x1 := (o (w.heap.size + 1) 1 (by omega)).trans v1
   have x2 := (o (w.heap.size + 1) 2 (by omega)).trans v2
   have y0 := (o (w.heap.size + 1 + 1) 0 (by omega)).trans t0
   have y2 := (o (w.heap.size + 1 + 1) 2 (by omega)).trans t2
   have y1 : (wc.setCell ⟨w.heap.size + 1 + 1, 1, none⟩ (.string ⟨U.toArray⟩)).cell? ⟨w.heap.size + 1 + 1, 1, none⟩ = some (.string ⟨U.toArray⟩) := World.cell?_setCell_same _ _ _ t1
   have qx := (o wo.heap.size 0 (by omega)).trans qq
   have hf5 : ∀ i', (wc.setCell ⟨w.heap.size + 1 + 1, 1, none⟩ (.string ⟨U.toArray⟩)).frozen? ⟨w.heap.size + 1, i', none⟩ = false := fun i' => by
    rw [World.frozen?_setCell]; exact hf4 i'
   have hbx : Below w.heap.size w (wc.setCell ⟨w.heap.size + 1 + 1, 1, none⟩ (.string ⟨U.toArray⟩)) := HB5.out.setCell (p := ⟨w.heap.size + 1 + 1, 1, none⟩) (by show w.heap.size ≤ w.heap.size + 1 + 1; omega) _
   have X0 := zwe x0
   have X1 := zwe x1
   have X2 := zwe x2
   have Y0 := zwe y0
   have Y1 := zwe y1
   have Y2 := zwe y2
   have QX := zwe qx
   have HF5 := zwe hf5
   have HBX5 := zwe hbx
   clear o x0 x1 x2 y0 y1 y2 qx hf5 hbx hf4 qq
   go_wp2_with fail
   clear v0 v1 v2 t0 t1 t2 hg4
   generalize wc.setCell ⟨w.heap.size + 1 + 1, 1, none⟩ (.string ⟨U.toArray⟩) = W6 at *
   have x0 := X0.out
   have x1 := X1.out
   have x2 := X2.out
   have y0 := Y0.out
   have y1 := Y1.out
   have y2 := Y2.out
   have qx := QX.out
   have hf5 := HF5.out
   rcases hup : V.only (V.kind [46, 43, 126, 45]) U with _ | _
   ·have HUP := zwe hup
    have HN : Hid (V.zu s.data.toList = none) := zwe (by rw [HFIN.out, hup]; rfl)
    clear hup
    refine (zfp ⟨U.toArray⟩ _ _ (by show U.length ≤ _; unfold maxLen; omega) qx).mono ?_
    rintro e w' ⟨rfl, rfl⟩
    simp only [HUP.out]
    go_wp2
    exact zy0
   ·have HUP := zwe hup
    have hpos : 0 < U.length := by
     cases U with
     | nil => simp [V.only] at hup
     | cons => simp
    have hpz : 0 < (ByteArray.mk U.toArray).size := hpos
    have hat := zwe (at0 hpz)
    rcases hdg : V.digB (ByteArray.mk U.toArray)[0].toNat with _ | _
    all_goals
     have HDG := zwe hdg
     clear hup hdg
     refine (zfp ⟨U.toArray⟩ _ _ (by show U.length ≤ _; unfold maxLen; omega) qx).mono ?_
     rintro e w' ⟨rfl, rfl⟩
     simp only [HUP.out]
     go_wp2_with fail
     refine (zak _ _).mono ?_
     rintro e w' ⟨rfl, rfl⟩
     simp only [HDG.out]
     go_wp2
    ·have HN : Hid (V.zu s.data.toList = none) := zwe (by
       rw [HFIN.out, HUP.out, if_neg]
       have : V.dig (U.getD 0 0) = false := by unfold V.dig; rw [show U.getD 0 0 = (ByteArray.mk U.toArray)[0] from hat.out]; exact HDG.out
       rw [this]; simp)
     exact zy0
    ·have HN : Hid (V.zu s.data.toList = some (E, U, R)) := zwe (by
       rw [HFIN.out, HUP.out, if_pos]
       have : V.dig (U.getD 0 0) = true := by unfold V.dig; rw [show U.getD 0 0 = (ByteArray.mk U.toArray)[0] from hat.out]; exact HDG.out
       rw [this]; simp)
     obtain ⟨z0, z1, z2⟩ := set3 _ (w.heap.size + 1) _ _ _ (.string ⟨E.toArray⟩) (.string ⟨U.toArray⟩) (.string ⟨R.toArray⟩) x0 x1 x2
     exact bodyPost_ret (za1 _ _ (w.heap.size + 1) true _ _ _ rfl rfl z0 z1 z2) rfl (by
       rw [HN.out]; exact ⟨zbu (w.heap.size + 1) HBX5.out (by omega) _ _ _, rfl⟩)
theorem zp2 {r : Option (V.Bs × V.Bs × V.Bs)} {w : World} {e : Ending} {w' : World} (h : zqa r w e w') (hr : r = none) :
  e = .returned (.tuple #[.agg #[.string ⟨#[]⟩, .string ⟨#[]⟩, .string ⟨#[]⟩], .bool false]) /\ Below w.heap.size w w' := by
 subst hr; exact ⟨h.2, h.1⟩
theorem zdc {r : Option (V.Bs × V.Bs × V.Bs)} {a b c : V.Bs} {w : World} {e : Ending} {w' : World} (h : zqa r w e w') (hr : r = some (a, b, c)) :
  e = .returned (.tuple #[.agg #[.string ⟨a.toArray⟩, .string ⟨b.toArray⟩, .string ⟨c.toArray⟩], .bool true]) /\ Below w.heap.size w w' := by
 subst hr; exact ⟨h.2, h.1⟩
theorem zqm (s : ByteArray) (w : World) (hm : zg w) (hs : s.size ≤ 1000) :
  Calls Tryz.prog 235 #[.agg #[], .string s] w fun e w' => e = .returned (.bool (V.zu s.data.toList).isSome) /\ Below w.heap.size w w' := by
 have hb0 : Below w.heap.size w (w.alloc (.cells #[] 184)) := (zwh _ w).alloc (zwg _) _
 have hm0 := hm.below hb0
 rcases hp : V.zu s.data.toList with _ | ⟨a, b, c⟩
 ·have HP := zwe hp
  have HB0 := zwe hb0
  clear hp hb0
  go_enter Tryz.func235, Tryz.ntmps235
  go_wp2_with fail
  refine (zbg s _ hm0 hs).mono ?_
  rintro e w1 h
  obtain ⟨rfl, hb1⟩ := zp2 h HP.out
  exact zz1
 ·have HP := zwe hp
  have HB0 := zwe hb0
  clear hp hb0
  go_enter Tryz.func235, Tryz.ntmps235
  go_wp2_with fail
  refine (zbg s _ hm0 hs).mono ?_
  rintro e w1 h
  obtain ⟨rfl, hb1⟩ := zdc h HP.out
  exact zz1
open Go.RowKit
theorem zra (x y : V.Bs) (k : Nat) (hk : k < max x.length y.length) (h : ∀ j, j < k -> Lib.compareInt (V.wt x j) (V.wt y j) = 0) (h0 : Lib.compareInt (V.wt x k) (V.wt y k) ≠ 0) :
  V.wcmp x y = Lib.compareInt (V.wt x k) (V.wt y k) := by
 have e : ∀ j, j < max x.length y.length -> ((List.range (max x.length y.length)).map fun i => Lib.compareInt (V.wt x i) (V.wt y i)).getD j 0 = Lib.compareInt (V.wt x j) (V.wt y j) := fun j hj => by
  simp [List.getD, List.getElem?_range hj]
 unfold V.wcmp
 rw [V.orI_hit _ k (fun j hj => by rw [e j (by omega)]; exact h j hj) (by simpa using hk) (by rw [e k hk]; exact h0), e k hk]
theorem zm8 (x y : V.Bs) (h : ∀ j, j < max x.length y.length -> Lib.compareInt (V.wt x j) (V.wt y j) = 0) : V.wcmp x y = 0 := by
 have e : ∀ j, j < max x.length y.length -> ((List.range (max x.length y.length)).map fun i => Lib.compareInt (V.wt x i) (V.wt y i)).getD j 0 = Lib.compareInt (V.wt x j) (V.wt y j) := fun j hj => by
  simp [List.getD, List.getElem?_range hj]
 unfold V.wcmp
 exact V.orI_zero _ (fun j hj => by have hj' : j < max x.length y.length := by simpa using hj
                                    rw [e j hj']; exact h j hj')
theorem zyy {P : Prop} (h : P := by
 by_cases ha : a.data.toList = []
 ·have hb : b.data.toList ≠ [] := fun e => HNE.out (by rw [ha, e]; rfl)
  have := V.ud _ hb
  rw [hyb] at this
  simp only [hqb, zf] at this
  simp only at l1 l3; omega
 ·have := V.ud _ ha
  rw [hxa] at this
  simp only [hpa, zf] at this
  simp only at l2 l4; omega) : P := h
theorem zy6 {P : Prop} (h : P := by
 have HR : Hid (V.ql s.data.toList t.data.toList = V.numbers p q) := zwe (by
   rw [HSTEP.out, HZ0.out, V.wj, V.kk h0])
 have hb : (V.numbers p q != 0) = true := by simpa using h0
 generalize V.numbers p q = c at *
 clear h0
 go_wp2
 go_ret
 exact ⟨zp HR.out.symm, HB5.out⟩) : P := h
theorem zzq {P : Prop} (h : P := by
 have HR : Hid (V.ql s.data.toList t.data.toList = 0) := zwe (by
   rw [Lib.toList_data] at hea heb
   rw [← HT.out, List.isEmpty_iff.1 hea, List.isEmpty_iff.1 heb]; rfl)
 go_wp2
 go_ret
 exact ⟨zp HR.out.symm, HB.out⟩) : P := h
theorem z0f {P : Prop} (h : P := by
 go_wp2
 go_ret
 exact ⟨zp HR.out.symm, HB2.out⟩) : P := h
theorem zvb (s t : ByteArray) (w : World) (hs : s.size ≤ maxLen) (ht : t.size ≤ maxLen) :
  Calls Tryz.prog 237 #[.agg #[], .string s, .string t] w fun e w' => e = .returned (.int .i64 (V.ql s.data.toList t.data.toList)) /\ Below w.heap.size w w' := by
 unfold maxLen at hs ht
 go_enter Tryz.func237, Tryz.ntmps237
 go_wp2
 go_loopw [1, 2] (fun v1 v2 wr => ∃ a b : ByteArray, v1 = .string a /\ v2 = .string b /\ a.size ≤ s.size /\ b.size ≤ t.size /\ V.ql a.data.toList b.data.toList = V.ql s.data.toList t.data.toList /\ Below w.heap.size w wr) (fun v1 v2 _ => szOf v1 + szOf v2)
 case atStart => exact ⟨s, t, rfl, rfl, zwg _, zwg _, rfl, (zwh _ _).alloc (zwg _) _⟩
 case round =>
  obtain ⟨a, b, rfl, rfl, has, hbt, htx, hB⟩ := hrel
  have HT := zwe htx
  have HB := zwe hB
  clear htx hB
  rcases hea : a.toList.isEmpty with _ | _ <;> rcases heb : b.toList.isEmpty with _ | _
  case true.true =>
   exact zzq
  all_goals
   have hne : ¬ (a.data.toList.isEmpty && b.data.toList.isEmpty) = true := by rw [← Lib.toList_data, ← Lib.toList_data, hea, heb]; simp
   have hstep := V.zep _ _ hne
   have HNE := zwe hne
   clear hne
   obtain ⟨x, a1, hxa⟩ : ∃ x a1, V.zv a.data.toList false = (x, a1) := ⟨_, _, rfl⟩
   obtain ⟨y, b1, hyb⟩ : ∃ y b1, V.zv b.data.toList false = (y, b1) := ⟨_, _, rfl⟩
   obtain ⟨p, a2, hpa⟩ : ∃ p a2, V.zv a1 true = (p, a2) := ⟨_, _, rfl⟩
   obtain ⟨q, b2, hqb⟩ : ∃ q b2, V.zv b1 true = (q, b2) := ⟨_, _, rfl⟩
   have l1 := V.qn a.data.toList false
   have l2 := V.qn b.data.toList false
   have l3 := V.qn a1 true
   have l4 := V.qn b1 true
   rw [hxa, zf] at l1
   rw [hyb, zf] at l2
   rw [hpa] at l3
   rw [hqb] at l4
   have l5 : a2.length + b2.length < a.size + b.size := by
    exact zyy
   rw [hxa, hyb] at hstep
   simp only [hpa, hqb] at hstep
   rw [HT.out] at hstep
   have HSTEP := zwe hstep
   have HXA := zwe hxa
   have HYB := zwe hyb
   have HPA := zwe hpa
   have HQB := zwe hqb
   simp only at l1 l2 l3 l4
   have m1 : x.length ≤ s.size := by omega
   have m2 : y.length ≤ t.size := by omega
   have m3 : a1.length ≤ s.size := by omega
   have m4 : b1.length ≤ t.size := by omega
   have m5 : a2.length ≤ s.size := by omega
   have m6 : b2.length ≤ t.size := by omega
   have L5 := zwe l5
   clear hstep hxa hyb hpa hqb l1 l2 l3 l4 l5
   go_wp2_with fail
   refine (zgz a false _ (by unfold maxLen; omega)).mono ?_
   rintro e w1 ⟨rfl, hb1⟩
   simp only [HXA.out]
   go_wp2_with fail
   refine (zgz b false _ (by unfold maxLen; omega)).mono ?_
   rintro e w2 ⟨rfl, hb2⟩
   simp only [HYB.out]
   have HB2 := zwe (HB.out.trans ((hb1.trans (hb2.mono hb1.size)).mono HB.out.size))
   clear hb1 hb2
   go_wp2
   go_loop [9] (fun i => ∃ k : Nat, k ≤ max x.length y.length /\ i = .int .i64 k /\ ∀ j, j < k -> Lib.compareInt (V.wt x j) (V.wt y j) = 0) (fun i => max x.length y.length - (intOf i).toNat)
   case atStart => exact ⟨0, Nat.zero_le _, rfl, fun j hj => by omega⟩
   case round =>
    obtain ⟨k, hk, rfl, hz⟩ := hrel
    have HZ := zwe hz
    clear hz
    by_cases hlt : k < max x.length y.length
    ·have hor : (k < x.length) ∨ (¬ k < x.length /\ k < y.length) := by omega
     have hcut := zra x y k hlt HZ.out
     have HCUT := zwe hcut
     have HLT := zwe hlt
     clear hcut hlt
     rcases hor with h1 | ⟨h1, h2⟩
     all_goals
      go_wp2_with fail
      refine (zlk ⟨x.toArray⟩ k _ (by show x.length ≤ _; unfold maxLen; omega) (by unfold maxLen; omega)).mono ?_
      rintro e w' ⟨rfl, rfl⟩
      go_wp2_with fail
      refine (zlk ⟨y.toArray⟩ k _ (by show y.length ≤ _; unfold maxLen; omega) (by unfold maxLen; omega)).mono ?_
      rintro e w' ⟨rfl, rfl⟩
      go_wp2_with fail
      refine (zri _ _ _).mono ?_
      rintro e w' ⟨rfl, rfl⟩
      simp only
      by_cases h0 : Lib.compareInt (V.wt x k) (V.wt y k) = 0
      ·have HR : Hid (∀ j, j < k + 1 -> Lib.compareInt (V.wt x j) (V.wt y j) = 0) := zwe (fun j hj => by
         by_cases e : j = k
         · subst e; exact h0
         · exact HZ.out j (by omega))
       rw [h0]
       have HL2 := HLT.out
       exact zzv
      ·have HR : Hid (V.ql s.data.toList t.data.toList = Lib.compareInt (V.wt x k) (V.wt y k)) := zwe (by
         rw [HSTEP.out, HCUT.out h0, V.kk h0])
       have hb : (Lib.compareInt (V.wt x k) (V.wt y k) != 0) = true := by simpa using h0
       generalize Lib.compareInt (V.wt x k) (V.wt y k) = c at *
       clear h0
       exact z0f
    ·have HZ0 : Hid (V.wcmp x y = 0) := zwe (zm8 x y (fun j hj => HZ.out j (by omega)))
     have h1 : ¬ k < x.length := by omega
     have h2 : ¬ k < y.length := by omega
     clear hlt
     go_wp2_with fail
     refine (zgz ⟨a1.toArray⟩ true _ (by show a1.length ≤ _; unfold maxLen; omega)).mono ?_
     rintro e w3 ⟨rfl, hb3⟩
     simp only [HPA.out]
     go_wp2_with fail
     refine (zgz ⟨b1.toArray⟩ true _ (by show b1.length ≤ _; unfold maxLen; omega)).mono ?_
     rintro e w4 ⟨rfl, hb4⟩
     simp only [HQB.out]
     go_wp2_with fail
     refine (zap ⟨p.toArray⟩ ⟨q.toArray⟩ _).mono ?_
     rintro e w5 ⟨rfl, hb5⟩
     simp only
     have HB5 := zwe (HB2.out.trans ((hb3.trans ((hb4.trans (hb5.mono hb4.size)).mono hb3.size)).mono HB2.out.size))
     clear hb3 hb4 hb5
     by_cases h0 : V.numbers p q = 0
     ·have HR : Hid (V.ql a2 b2 = V.ql s.data.toList t.data.toList) := zwe (by
        rw [HSTEP.out, HZ0.out, h0]; rfl)
      rw [h0]
      clear h0
      go_wp2
      go_roundw
      case rel => exact ⟨⟨a2.toArray⟩, ⟨b2.toArray⟩, rfl, rfl, m5, m6, by simp only ; exact HR.out, HB5.out⟩
      case measure => exact L5.out
     ·exact zy6
theorem texts_at (x y : V.Bs) (w : World) (hx : x.length ≤ 1000) (hy : y.length ≤ 1000) :
  Calls Tryz.prog 237 #[.agg #[], .string ⟨x.toArray⟩, .string ⟨y.toArray⟩] w fun e w' => e = .returned (.int .i64 (V.ql x y)) /\ Below w.heap.size w w' := by
 have h := zvb ⟨x.toArray⟩ ⟨y.toArray⟩ w (by show x.length ≤ _; unfold maxLen; omega) (by show y.length ≤ _; unfold maxLen; omega)
 simp only  at h
 exact h
theorem ziv {E v a b c : V.Bs} (h : V.jq E v = some (a, b, c)) : a = E /\ b.length ≤ v.length /\ c.length ≤ v.length := by
 unfold V.jq at h
 split at h
 ·split at h
  ·simp at h; obtain ⟨rfl, rfl, rfl⟩ := h; simp
  ·cases h
 ·split at h
  ·split at h
   ·simp at h; obtain ⟨rfl, rfl, rfl⟩ := h; simp; omega
   ·cases h
  ·cases h
theorem zg8 {v a b c : V.Bs} (h : V.zu v = some (a, b, c)) : a.length ≤ v.length /\ b.length ≤ v.length /\ c.length ≤ v.length := by
 unfold V.zu at h
 have hl := uo 58 v
 split at h
 ·split at h
  ·have := ziv h; obtain ⟨rfl, h1, h2⟩ := this; omega
  ·cases h
 ·have := ziv h; obtain ⟨rfl, h1, h2⟩ := this; simp; omega
theorem zk2 (s t : ByteArray) (x0 x1 x2 y0 y1 y2 : V.Bs) (w : World) (hm : zg w) (hs : s.size ≤ 1000) (ht : t.size ≤ 1000)
  (hp : V.zu s.data.toList = some (x0, x1, x2)) (hq : V.zu t.data.toList = some (y0, y1, y2)) :
  Calls Tryz.prog 233 #[.agg #[], .string s, .string t] w fun e w' => e = .returned (.int .i64 (V.vv (x0, x1, x2) (y0, y1, y2))) /\ Below w.heap.size w w' := by
 have HF : Hid (V.vv (x0, x1, x2) (y0, y1, y2) = V.orI [V.numbers x0 y0, V.ql x1 y1, V.ql x2 y2]) := rfl
 have hb0 : Below w.heap.size w (w.alloc (.cells #[] 184)) := (zwh _ w).alloc (zwg _) _
 have hm0 := hm.below hb0
 have hlx := zg8 hp
 have hly := zg8 hq
 rw [zf] at hlx hly
 obtain ⟨lx0, lx1, lx2⟩ := hlx
 obtain ⟨ly0, ly1, ly2⟩ := hly
 have HP := zwe hp
 have HQ := zwe hq
 have HB0 := zwe hb0
 clear hp hq hb0
 go_enter Tryz.func233, Tryz.ntmps233
 go_wp2_with fail
 refine (zbg s _ hm0 hs).mono ?_
 rintro e w1 h
 obtain ⟨rfl, hb1⟩ := zdc h HP.out
 have hB1 := HB0.out.trans (hb1.mono HB0.out.size)
 have HB1 := zwe hB1
 have hm1 := hm.below hB1
 clear h hb1 hB1
 go_wp2_with fail
 have hbc : Below w1.heap.size w1 (w1.alloc (.cells #[.string ⟨x0.toArray⟩, .string ⟨x1.toArray⟩, .string ⟨x2.toArray⟩] 247)) := (zwh _ _).alloc (zwg _) _
 refine (zbg t _ (hm1.below hbc) ht).mono ?_
 rintro e w2 h
 obtain ⟨rfl, hb2⟩ := zdc h HQ.out
 have hc2 : ∀ i, w2.cell? ⟨w1.heap.size, i, none⟩ = #[Value.string ⟨x0.toArray⟩, .string ⟨x1.toArray⟩, .string ⟨x2.toArray⟩][i]? := je hb2 (by simp) (fun i => by rw [ze, if_pos rfl])
 have hB2 := hbc.trans (hb2.mono hbc.size)
 have hz2 : w1.heap.size < w2.heap.size := Nat.lt_of_lt_of_le (by simp) hb2.size
 have HB2 := zwf HB1 hB2
 clear h hb2 hbc hB2
 go_wp2_with fail
 obtain ⟨W3, hW3⟩ : ∃ W3, W3 = w2.alloc (.cells #[.string ⟨y0.toArray⟩, .string ⟨y1.toArray⟩, .string ⟨y2.toArray⟩] 247) := ⟨_, rfl⟩
 rw [← hW3]
 have hb3 : Below w2.heap.size w2 W3 := by rw [hW3]; exact (zwh _ _).alloc (zwg _) _
 have e : ∀ i, W3.cell? ⟨w1.heap.size, i, none⟩ = #[Value.string ⟨x0.toArray⟩, .string ⟨x1.toArray⟩, .string ⟨x2.toArray⟩][i]? := je hb3 hz2 hc2
 have g : ∀ i, W3.cell? ⟨w2.heap.size, i, none⟩ = #[Value.string ⟨y0.toArray⟩, .string ⟨y1.toArray⟩, .string ⟨y2.toArray⟩][i]? := fun i => by rw [hW3, ze, if_pos rfl]
 have e0 := e 0
 have e1 := e 1
 have e2 := e 2
 have g0 := g 0
 have g1 := g 1
 have g2 := g 2
 simp at e0 e1 e2 g0 g1 g2
 have HB3 := zwf HB2 hb3
 have hz3 : w2.heap.size < W3.heap.size := by rw [hW3]; simp
 have hz4 : w1.heap.size < W3.heap.size := by omega
 clear hW3 hb3 e g hc2 hm0 hm1 HB1 HB2 HB0
 go_region_held3 (fun W' => (W'.cell? ⟨w1.heap.size, 0, none⟩ = some (.string ⟨x0.toArray⟩) /\ W'.cell? ⟨w1.heap.size, 1, none⟩ = some (.string ⟨x1.toArray⟩) /\ W'.cell? ⟨w1.heap.size, 2, none⟩ = some (.string ⟨x2.toArray⟩) /\
     W'.cell? ⟨w2.heap.size, 0, none⟩ = some (.string ⟨y0.toArray⟩) /\ W'.cell? ⟨w2.heap.size, 1, none⟩ = some (.string ⟨y1.toArray⟩) /\ W'.cell? ⟨w2.heap.size, 2, none⟩ = some (.string ⟨y2.toArray⟩)))
  (first
    | go_keep
    | (go_split_ands
       refine ⟨?_, ?_, ?_, ?_, ?_, ?_⟩ <;> (refine zew hbq ?_; first | assumption | (simp only [World.cell?_drew]; assumption))))
  (first
    | (go_at_call 211; refine (zap _ _ _).mono ?_; rintro e wq ⟨rfl, hbq⟩)
    | (go_at_call 237; refine (texts_at _ _ _ (by omega) (by omega)).mono ?_; rintro e wq ⟨rfl, hbq⟩)
    | (go_at_call 87; refine (zpm _ [V.numbers x0 y0, V.ql x1 y1, V.ql x2 y2] _ (by simp) (zln _ _ _ _ _)).mono ?_; rintro e wq ⟨rfl, rfl⟩))
 rename_i wa hba wb hbb hS
 have hbx : Below W3.heap.size W3 wq := ((zwh W3.heap.size W3).drew).trans (Below.trans (show Below W3.heap.size W3.drew wa from hba) ((hbb.trans (hbq.mono hbb.size)).mono hba.size))
 have HB4 := zwf HB3 hbx
 clear e0 e1 e2 g0 g1 g2 hba hbb hbq hbx hS HB3 hz2 hz3 hz4
 go_wp2
 go_ret
 exact ⟨zp HF.out.symm, HB4.out.alloc HB4.out.size _⟩
open Go.RowKit
def zuu (l : List V.Bs) (w : World) (e : Ending) (w' : World) : Prop := ∃ v, e = .returned v /\ Strs w' v l /\ Below w.heap.size w w'
def lenOf : Value -> Nat
 | .slice _ n _ => n
 | _ => 0
theorem zsz {L : List V.Bs} {k : Nat} (hk : k < L.length) (h : (V.value (L.getD k [])).isEmpty = true) : V.qd (L.take (k + 1)) = V.qd (L.take k) := by
 rw [List.take_succ_eq_append_getElem hk]
 rw [kg hk] at h
 exact V.zmt _ _ h
theorem zsk {L : List V.Bs} {k : Nat} (hk : k < L.length) (h : (V.value (L.getD k [])).isEmpty = false) : V.qd (L.take (k + 1)) = L.take (k + 1) := by
 rw [List.take_succ_eq_append_getElem hk]
 rw [kg hk] at h
 exact V.zmp _ _ h
theorem zpv (s : ByteArray) (w : World) (hm : zg w) (hs : s.size ≤ 1000) :
  Calls Tryz.prog 248 #[.agg #[], .string s] w (zuu (V.kc s.data.toList) w) := by
 have hb0 : Below w.heap.size w (w.alloc (.cells #[] 185)) := (zwh _ w).alloc (zwg _) _
 have hm0 := hm.below hb0
 obtain ⟨L, hL⟩ : ∃ L, V.zd 46 s.data.toList = L := ⟨_, rfl⟩
 have HP : Hid (V.kc s.data.toList = V.qd L) := zwe (by unfold V.kc; rw [hL])
 have hlen : L.length ≤ s.size + 1 := by have := jn 46 s.data.toList; rw [hL, zf] at this; exact this
 have HL := zwe hL
 have HB0 := zwe hb0
 clear hL hb0
 go_enter Tryz.func248, Tryz.ntmps248
 go_wp2_with fail
 refine (kp s 46 _ hm0 (by omega)).mono ?_
 rintro e w1 ⟨rfl, hw1⟩
 simp only [HL.out, World.size_alloc] at hw1 ⊢
 have hz : w.heap.size + 1 < w1.heap.size := by rw [hw1]; simp
 have hcs : ∀ j, j < L.length -> w1.cell? ⟨w.heap.size + 1, j, none⟩ = some (.string ⟨(L.getD j []).toArray⟩) := fun j hj => by
  rw [hw1, ze, if_pos (by simp), yp L j hj, kg hj]
 have HB1 : Hid (Below w.heap.size w w1) := zwe (by rw [hw1]; exact HB0.out.alloc HB0.out.size _)
 have HCS := zwe hcs
 clear hw1 hcs HB0 hm0
 go_wp2
 go_loop [5] (fun v => ∃ k : Nat, k ≤ L.length /\ v = .slice (some ⟨w.heap.size + 1, 0, none⟩) k L.length /\ V.qd (L.take k) = V.qd L) (fun v => lenOf v)
 case atStart => exact ⟨L.length, zwg _, rfl, by rw [List.take_of_length_le (zwg _)]⟩
 case round =>
  obtain ⟨k, hk, rfl, hst⟩ := hrel
  have HST := zwe hst
  clear hst
  have FIN : Hid (∀ l, l = L.take k -> V.qd L = l -> zuu (V.kc s.data.toList) w (.returned (.slice (some ⟨w.heap.size + 1, 0, none⟩) k L.length)) w1) := zwe (fun l hl hs => by
    refine ⟨_, rfl, ⟨some ⟨w.heap.size + 1, 0, none⟩, L.length, ?_, fun j hj => ⟨_, _, rfl, hz, ?_⟩⟩, HB1.out⟩
    · rw [HP.out, hs, hl, List.length_take, Nat.min_eq_left hk]
    · have hlt : j < L.length := by
        rw [HP.out, hs, hl, List.length_take] at hj; omega
      rw [Nat.zero_add, HCS.out j hlt, kg hlt]
      congr 3
      have e : V.kc s.data.toList = L.take k := by rw [HP.out, hs, hl]
      simp only [e, List.getElem_take])
  cases k with
  | zero =>
   have HF := zwe (FIN.out (L.take 0) rfl (by rw [← HST.out]; rfl))
   go_wp2
   go_ret
   exact HF.out
  | succ k =>
   have hcell := HCS.out k (by omega)
   have hx1 : ((k + 1 : Nat) : Int) = (k : Int) + 1 := by omega
   rcases hv : (V.value (L.getD k [])).isEmpty with _ | _
   all_goals
    have HV := zwe hv
    clear hv
    generalize hX : L.getD k [] = X at *
    have HX := zwe hX
    clear hX
    go_wp2_with fail
    refine (zh0 ⟨X.toArray⟩ _).mono ?_
    rintro e w' ⟨rfl, rfl⟩
    simp only
    have hv := HV.out
    go_wp2
   ·have HF := zwe (FIN.out (L.take (k + 1)) rfl (by rw [← HST.out]; exact zsk (by omega) (by rw [HX.out]; exact HV.out)))
    go_ret
    exact HF.out
   ·go_round
    case rel => exact ⟨k, by omega, rfl, by rw [← zsz (k := k) (by omega) (by rw [HX.out]; exact HV.out)]; exact HST.out⟩
    case measure => simp [lenOf]
theorem zsl (a b : V.Bs) (W : World) : Calls Tryz.prog 211 (#[.string ⟨a.toArray⟩, .string ⟨b.toArray⟩] ++ #[]) W fun e w' => e = .returned (.int .i64 (V.numbers a b)) /\ Below W.heap.size W w' := by
 have h := zap ⟨a.toArray⟩ ⟨b.toArray⟩ W
 simp only  at h
 exact h
theorem zqn (l : List V.Bs) : ∀ x ∈ V.qd l, x ∈ l := by
 intro x hx
 unfold V.qd at hx
 have := (List.dropWhile_sublist (l := l.reverse) (fun x => (V.value x).isEmpty)).subset (List.mem_reverse.1 hx)
 exact List.mem_reverse.1 this
theorem zpa (l : List V.Bs) : (V.qd l).length ≤ l.length := by
 unfold V.qd
 have := (List.dropWhile_sublist (l := l.reverse) (fun x => (V.value x).isEmpty)).length_le
 simpa using this
theorem zmd (s t : ByteArray) (w : World) (hm : zg w) (hs : s.size ≤ 1000) (ht : t.size ≤ 1000) :
  Calls Tryz.prog 245 #[.agg #[], .string s, .string t] w fun e w' => e = .returned (.int .i64 (V.zbz s.data.toList t.data.toList)) /\ Below w.heap.size w w' := by
 have HF : Hid (V.zbz s.data.toList t.data.toList = V.ji V.numbers (V.kc s.data.toList) (V.kc t.data.toList)) := rfl
 have hb0 : Below w.heap.size w (w.alloc (.cells #[] 185)) := (zwh _ w).alloc (zwg _) _
 have hm0 := hm.below hb0
 have sz : ∀ r : ByteArray, r.size ≤ 1000 -> (V.kc r.data.toList).length ≤ 2000 /\ ∀ x ∈ V.kc r.data.toList, x.length ≤ 1000 := fun r hr => by
  refine ⟨?_, fun x hx => ?_⟩
  ·have h1 := zpa (V.zd 46 r.data.toList)
   have h2 := jn 46 r.data.toList
   rw [zf] at h2
   unfold V.kc; omega
  ·have h1 := kd 46 _ x (zqn _ x hx)
   rw [zf] at h1; omega
 have SZ := zwe sz
 have HB0 := zwe hb0
 clear sz hb0
 go_enter Tryz.func245, Tryz.ntmps245
 go_wp2
 go_region_held3 (fun W' => zg W' /\ True)
  (first
    | (go_split_ands; exact ⟨zg.below (by assumption) hbq, trivial⟩)
    | (exact ⟨hm0, trivial⟩)
    | go_keep)
  (first
    | (go_at_call 248; refine (zpv _ _ (by first | assumption | exact And.left (b := True) (by assumption) | exact zg.below (by assumption) (by assumption)) (by assumption)).mono ?_; rintro e wq ⟨vq, rfl, hsq, hbq⟩)
    | (go_at_call 212; refine (zds _ _ (V.kc s.data.toList) (V.kc t.data.toList) _ #[] V.numbers _ (by first | assumption | exact Strs.below (by assumption) (by assumption)) (by first | assumption | exact Strs.below (by assumption) (by assumption)) (SZ.out s hs).1 (SZ.out t ht).1 (SZ.out s hs).2 (SZ.out t ht).2 (enters_of Tryz.func211 (by kernel_rfl) rfl) (fun x y W _ _ => zsl x y W)).mono ?_; rintro e wq ⟨rfl, hbq⟩))
 rename_i wa va hsa hba wb hbb hH
 have hbx : Below w.heap.size w wq := HB0.out.trans ((((zwh _ (w.alloc (.cells #[] 185))).drew).trans (Below.trans (show Below (w.alloc (.cells #[] 185)).heap.size (w.alloc (.cells #[] 185)).drew wa from hba) ((hbb.trans (hbq.mono hbb.size)).mono hba.size))).mono HB0.out.size)
 have HBX := zwe hbx
 clear hsa hba hbb hH hsq hbq hbx
 go_wp2
 go_ret
 exact ⟨zp HF.out.symm, HBX.out⟩
open Go.RowKit
theorem Strs.at {w : World} {a : Option Addr} {n cap : Nat} {l : List V.Bs} (h : Strs w (.slice a n cap) l) (j : Nat) (hj : j < l.length) :
  ∃ b off, a = some ⟨b, off, none⟩ /\ b < w.heap.size /\ w.cell? ⟨b, off + j, none⟩ = some (.string ⟨(l.getD j []).toArray⟩) := by
 obtain ⟨a', c, e, hc⟩ := h
 obtain ⟨b, off, ea, hb, hcell⟩ := hc j hj
 cases e
 refine ⟨b, off, ea, hb, ?_⟩
 rw [List.getD_eq_getElem?_getD, List.getElem?_eq_getElem hj]
 exact hcell
theorem Strs.slice {w : World} {v : Value} {l : List V.Bs} (h : Strs w v l) : ∃ a cap, v = .slice a l.length cap := by
 obtain ⟨a, c, e, _⟩ := h
 exact ⟨a, c, e⟩
theorem Strs.head {w : World} {v : Value} {l : List V.Bs} (h : Strs w v l) (h0 : 0 < l.length) :
  ∃ b off cap, v = .slice (some ⟨b, off, none⟩) l.length cap /\ b < w.heap.size /\ ∀ j, j < l.length -> w.cell? ⟨b, off + j, none⟩ = some (.string ⟨(l.getD j []).toArray⟩) := by
 obtain ⟨a, c, e, hc⟩ := h
 obtain ⟨b, off, rfl, hb, _⟩ := hc 0 h0
 refine ⟨b, off, c, e, hb, fun j hj => ?_⟩
 obtain ⟨b', off', ea, _, hcell⟩ := hc j hj
 cases ea
 rw [List.getD_eq_getElem?_getD, List.getElem?_eq_getElem hj]
 exact hcell
open Go.RowKit
open Go.RowKit
theorem zrx (k : Nat) (w : World) : (method (k + 1) 183 (.agg #[]) "admission/version.valid").run Tryz.prog w = .ok (209, .agg #[]) w := by kernel_rfl
theorem zq8 (k : Nat) (w : World) : (method (k + 1) 184 (.agg #[]) "admission/version.valid").run Tryz.prog w = .ok (235, .agg #[]) w := by kernel_rfl
theorem zrw (k : Nat) (w : World) : (method (k + 1) 185 (.agg #[]) "admission/version.valid").run Tryz.prog w = .ok (247, .agg #[]) w := by kernel_rfl
theorem zy3 {P : Prop} (h : P := by
 go_enter Tryz.func124, Tryz.ntmps124
 go_wp2
 go_ret
 exact ⟨rfl, rfl⟩) : P := h
theorem zjq (w : World) : Calls Tryz.prog 124 #[.int .i64 1] w fun e w' => e = .returned (.iface 183 (.agg #[])) /\ w = w' := by
 exact zy3
theorem zjh (w : World) : Calls Tryz.prog 124 #[.int .i64 2] w fun e w' => e = .returned (.iface 184 (.agg #[])) /\ w = w' := by
 exact zy3
theorem zjg (w : World) : Calls Tryz.prog 124 #[.int .i64 3] w fun e w' => e = .returned (.iface 185 (.agg #[])) /\ w = w' := by
 exact zy3
theorem zt7 (n : Int) (h1 : n ≠ 1) (h2 : n ≠ 2) (h3 : n ≠ 3) (w : World) : Calls Tryz.prog 124 #[.int .i64 n] w fun e w' => e = .returned .nilIface /\ w = w' := by
 have b1 : (n == 1) = false := by simpa using h1
 have b2 : (n == 2) = false := by simpa using h2
 have b3 : (n == 3) = false := by simpa using h3
 exact zy3
theorem zza {P : Prop} (h : P := by
 rintro e w' ⟨rfl, rfl⟩
 go_wp2
 go_ret
 exact ⟨zc HF.out.symm, zwh _ _⟩) : P := h
theorem z1n {P : Prop} (h : P := by
 rintro e w1 ⟨rfl, hb⟩
 go_wp2
 go_ret
 exact ⟨zc (by rw [HF.out]), hb⟩) : P := h
theorem zk3 (s : ByteArray) (w : World) (hm : zg w) (hs : s.size ≤ maxLen) :
  Calls Tryz.prog 95 #[.int .i64 1, .string s] w fun e w' => e = .returned (.bool (V.valid 1 s.data.toList)) /\ Below w.heap.size w w' := by
 unfold maxLen at hs
 have hmeth := zrx
 by_cases h1 : 1 ≤ s.size
 ·have b1 : (1 : Int) ≤ (s.size : Int) := by omega
  by_cases h2 : s.size ≤ 64
  ·have HF : Hid (V.valid 1 s.data.toList = (V.zq s.data.toList).isSome) := zwe (by unfold V.valid V.uh; rw [zf]; simp [h1, h2])
   have b2 : (s.size : Int) ≤ 64 := by omega
   go_enter Tryz.func95, Tryz.ntmps95
   go_wp2_with fail
   refine (zjq _).mono ?_
   rintro e w' ⟨rfl, rfl⟩
   go_wp2_with fail
   refine (zpc s _ hm (by omega)).mono ?_
   exact z1n
  ·have HF : Hid (V.valid 1 s.data.toList = false) := zwe (by unfold V.valid; rw [zf]; simp [h2])
   have b2 : ¬ (s.size : Int) ≤ 64 := by omega
   go_enter Tryz.func95, Tryz.ntmps95
   go_wp2_with fail
   refine (zjq _).mono ?_
   exact zza
 ·have HF : Hid (V.valid 1 s.data.toList = false) := zwe (by unfold V.valid; rw [zf]; simp [h1])
  have b1 : ¬ (1 : Int) ≤ (s.size : Int) := by omega
  go_enter Tryz.func95, Tryz.ntmps95
  go_wp2_with fail
  refine (zjq _).mono ?_
  exact zza
theorem zj2 (s : ByteArray) (w : World) (hm : zg w) (hs : s.size ≤ maxLen) :
  Calls Tryz.prog 95 #[.int .i64 2, .string s] w fun e w' => e = .returned (.bool (V.valid 2 s.data.toList)) /\ Below w.heap.size w w' := by
 unfold maxLen at hs
 have hmeth := zq8
 by_cases h1 : 1 ≤ s.size
 ·have b1 : (1 : Int) ≤ (s.size : Int) := by omega
  by_cases h2 : s.size ≤ 64
  ·have HF : Hid (V.valid 2 s.data.toList = (V.zu s.data.toList).isSome) := zwe (by unfold V.valid V.uh; rw [zf]; simp [h1, h2])
   have b2 : (s.size : Int) ≤ 64 := by omega
   go_enter Tryz.func95, Tryz.ntmps95
   go_wp2_with fail
   refine (zjh _).mono ?_
   rintro e w' ⟨rfl, rfl⟩
   go_wp2_with fail
   refine (zqm s _ hm (by omega)).mono ?_
   exact z1n
  ·have HF : Hid (V.valid 2 s.data.toList = false) := zwe (by unfold V.valid; rw [zf]; simp [h2])
   have b2 : ¬ (s.size : Int) ≤ 64 := by omega
   go_enter Tryz.func95, Tryz.ntmps95
   go_wp2_with fail
   refine (zjh _).mono ?_
   exact zza
 ·have HF : Hid (V.valid 2 s.data.toList = false) := zwe (by unfold V.valid; rw [zf]; simp [h1])
  have b1 : ¬ (1 : Int) ≤ (s.size : Int) := by omega
  go_enter Tryz.func95, Tryz.ntmps95
  go_wp2_with fail
  refine (zjh _).mono ?_
  exact zza
theorem zlz (s : ByteArray) (w : World) (_hm : zg w) (hs : s.size ≤ maxLen) :
  Calls Tryz.prog 95 #[.int .i64 3, .string s] w fun e w' => e = .returned (.bool (V.valid 3 s.data.toList)) /\ Below w.heap.size w w' := by
 unfold maxLen at hs
 have hmeth := zrw
 by_cases h1 : 1 ≤ s.size
 ·have b1 : (1 : Int) ≤ (s.size : Int) := by omega
  by_cases h2 : s.size ≤ 64
  ·have HF : Hid (V.valid 3 s.data.toList = V.zfl s.data.toList) := zwe (by unfold V.valid V.uh; rw [zf]; simp [h1, h2])
   have b2 : (s.size : Int) ≤ 64 := by omega
   go_enter Tryz.func95, Tryz.ntmps95
   go_wp2_with fail
   refine (zjg _).mono ?_
   rintro e w' ⟨rfl, rfl⟩
   go_wp2_with fail
   refine (zp0 s _ (by unfold maxLen; omega)).mono ?_
   exact z1n
  ·have HF : Hid (V.valid 3 s.data.toList = false) := zwe (by unfold V.valid; rw [zf]; simp [h2])
   have b2 : ¬ (s.size : Int) ≤ 64 := by omega
   go_enter Tryz.func95, Tryz.ntmps95
   go_wp2_with fail
   refine (zjg _).mono ?_
   exact zza
 ·have HF : Hid (V.valid 3 s.data.toList = false) := zwe (by unfold V.valid; rw [zf]; simp [h1])
  have b1 : ¬ (1 : Int) ≤ (s.size : Int) := by omega
  go_enter Tryz.func95, Tryz.ntmps95
  go_wp2_with fail
  refine (zjg _).mono ?_
  exact zza
theorem zss (n : Int) (h1 : n ≠ 1) (h2 : n ≠ 2) (h3 : n ≠ 3) (s : ByteArray) (w : World) :
  Calls Tryz.prog 95 #[.int .i64 n, .string s] w fun e w' => e = .returned (.bool (V.valid n s.data.toList)) /\ Below w.heap.size w w' := by
 have HF : Hid (V.valid n s.data.toList = false) := zwe (by unfold V.valid V.uh; simp [h1, h2, h3])
 go_enter Tryz.func95, Tryz.ntmps95
 go_wp2_with fail
 refine (zt7 n h1 h2 h3 _).mono ?_
 rintro e w' ⟨rfl, rfl⟩
 go_wp2
 go_ret
 exact ⟨zc HF.out.symm, zwh _ _⟩
theorem vl (n : Int) (s : ByteArray) (w : World) (hm : zg w) (hs : s.size ≤ maxLen) :
  Calls Tryz.prog 95 #[.int .i64 n, .string s] w fun e w' => e = .returned (.bool (V.valid n s.data.toList)) /\ Below w.heap.size w w' := by
 by_cases h1 : n = 1
 ·subst h1; exact zk3 s w hm hs
 ·by_cases h2 : n = 2
  ·subst h2; exact zj2 s w hm hs
  ·by_cases h3 : n = 3
   ·subst h3; exact zlz s w hm hs
   ·exact zss n h1 h2 h3 s w
end Go.Proofs.YtcfbkcapbbhmpaaGreatDoor
