/-
  Lemmas for the law.
-/
import Derived.Test.YtbikeahmldobkaaGreatDoorC51x02
import Derived.Test.YtbikeahmldobkaaGreatDoorC51x01
import Derived.Test.YtbikeahmldobkaaGreatDoorC51x10
import Derived.Test.YtbikeahmldobkaaGreatDoorC51x07
import Derived.Test.YtbikeahmldobkaaGreatDoorC51x04
import Derived.Test.YtbikeahmldobkaaGreatDoorC51x03
import Derived.Test.YtbikeahmldobkaaGreatDoorC51x08
import Derived.Lib.BufSteps
import Derived.OwnWalk
set_option linter.all false
set_option maxRecDepth 100000
set_option maxHeartbeats 3200000
namespace Go.Proofs.YtbikeahmldobkaaGreatDoor
open Go.RowKit
theorem zio {s : ByteArray} {k : Nat} : (s.extract 0 k).data.toList = s.data.toList.take k := by
 rw [Lib.extract_data]; simp
theorem zv0 {P : Prop} (h : P := by
 go_region
 all_goals
  go_wp2
  go_ret2
  exact ⟨by rw [HF.out.1, HF.out.2]; rfl, by first | exact zvb _ _ | exact (zvb _ _).drew⟩) : P := h
theorem zw3 {P : Prop} (h : P := by
 go_round
 case rel => exact ⟨k + 1, by omega, by go_num, by rw [HT.out, HP.out, HE.out]; show (true && (V.digB s[k].toNat == false)) = true; rw [HD.out]; rfl⟩
 case measure => simp [intOf]; omega) : P := h
theorem zw4 {P : Prop} (h : P := by
 go_round
 case rel => exact ⟨k + 1, by omega, by go_num, by rw [HT.out, HP.out, HE.out]; show (true && (V.digB s[k].toNat == true)) = true; rw [HD.out]; rfl⟩
 case measure => simp [intOf]; omega) : P := h
theorem zyt {P : Prop} (h : P := by
 refine zu8 ⟨yc ?_, yc ?_⟩
 ·rw [zio, this.1]; simp [V.zx]
 ·rw [Lib.extract_to_end, this.2]; simp [V.zx]) : P := h
theorem zft (s : ByteArray) (d : Bool) (w : World) (hs : s.size ≤ maxLen) :
  Calls Tryz.prog 259 #[.string s, .bool d] w fun e w' => e = .returned (.tuple #[.string ⟨(V.zx s.data.toList d).1.toArray⟩, .string ⟨(V.zx s.data.toList d).2.toArray⟩]) /\ Below w.heap.size w w' := by
 unfold maxLen at hs
 go_enter Tryz.func259, Tryz.ntmps259
 go_wp2
 go_loop [6] (fun i => ∃ k : Nat, k ≤ s.size /\ i = .int .i64 k /\ (s.data.toList.take k).all (fun c => V.dig c == d) = true) (fun i => s.size - (intOf i).toNat)
 case atStart => exact ⟨0, Nat.zero_le _, rfl, rfl⟩
 case round =>
  obtain ⟨k, hk, rfl, hp⟩ := hrel
  have HP := zu8 hp
  clear hp
  have fin : (k = s.size ∨ ∃ h : k < s.size, (V.digB s[k].toNat == d) = false) -> Hid (s.extract 0 k = ⟨(V.zx s.data.toList d).1.toArray⟩ /\ s.extract k s.size = ⟨(V.zx s.data.toList d).2.toArray⟩) := fun h => by
   have := V.zso s.data.toList (fun c => V.dig c == d) k (by rw [zh]; exact hk) HP.out (by
     rcases h with h | ⟨h, h2⟩
     · left; rw [zh]; exact h
     · right
       have e : s.data.toList[k]'(by rw [zh]; exact h) = s[k] := by simp; rfl
       exact ⟨by rw [zh]; exact h, by rw [e]; exact h2⟩)
   exact zyt
  have FIN := zu8 fin
  clear fin
  by_cases hlt : k < s.size
  ·have hl : k < s.data.toList.length := by rw [zh]; exact hlt
   have HT := zu8 (V.zby (p := fun c => V.dig c == d) hl)
   have HE : Hid (s.data.toList[k] = s[k]) := zu8 (by simp; rfl)
   rcases hD : V.digB s[k].toNat with _ | _ <;> cases d
   all_goals
    have HD := zu8 hD
    clear hD
    go_wp2_with fail
    refine (vh _ _).mono ?_
    rintro e w' ⟨rfl, rfl⟩
    simp only [HD.out]
    go_wp2
   ·exact zw3
   ·have HF := FIN.out (.inr ⟨hlt, by rw [HD.out]; rfl⟩)
    exact zv0
   ·have HF := FIN.out (.inr ⟨hlt, by rw [HD.out]; rfl⟩)
    exact zv0
   ·exact zw4
  ·have HF := FIN.out (.inl (by omega))
   go_wp2
   exact zv0
theorem or128 (c : UInt8) : bits .or .u8 (c.toNat : Int) 128 = ((c ||| 128).toNat : Int) := by
 have h : ∀ n : Fin 256, bits .or .u8 ((n.val : Nat) : Int) 128 = (((n.val ||| 128 : Nat)) : Int) := by decide +kernel
 have := h ⟨c.toNat, c.toNat_lt⟩
 rw [this, UInt8.toNat_or]; rfl
theorem zs1 {s : ByteArray} {i : Nat} (h : i < s.size) : s.data.toList.getD i 0 = s[i] := by
 have : i < s.data.toList.length := by rw [zh]; exact h
 simp [List.getD, List.getElem?_eq_getElem this]; rfl
theorem zx8 {P : Prop} (h : P := by
 go_enter Tryz.func261, Tryz.ntmps261
 go_wp2
 go_ret
 exact ⟨zu HW.out.symm, rfl⟩) : P := h
theorem zyw {P : Prop} (h : P := by
 rw [zvc]; intro e; apply h1; rw [← UInt8.toNat_inj]
 have : s[i].toNat = 126 := by omega
 rw [this]; rfl) : P := h
theorem zi7 (s : ByteArray) (i : Nat) (w : World) (_hs : s.size ≤ maxLen) (_hi : i ≤ maxLen) :
  Calls Tryz.prog 261 #[.string s, .int .i64 i] w fun e w' => e = .returned (.int .u8 (V.wt s.data.toList i)) /\ w = w' := by
 unfold maxLen at _hs _hi
 by_cases hlt : i < s.size
 ·have HG := zu8 (zs1 hlt)
  by_cases h1 : s[i] = 126
  ·have HW : Hid (V.wt s.data.toList i = 1) := zu8 (by unfold V.wt; rw [if_neg (by rw [zh]; omega), HG.out, if_pos h1])
   have hb : ((s[i].toNat : Int) == 126) = true := by rw [h1]; rfl
   clear h1
   exact zx8
  ·have hb : ((s[i].toNat : Int) == 126) = false := by
    exact zyw
   rcases hL : V.letB s[i].toNat with _ | _
   ·have HW : Hid (V.wt s.data.toList i = (s[i] ||| 128).toNat) := zu8 (by
      unfold V.wt; rw [if_neg (by rw [zh]; omega), HG.out, if_neg h1, if_neg]
      unfold V.lett; rw [hL]; simp)
    have HL := zu8 hL
    clear hL h1
    go_enter Tryz.func261, Tryz.ntmps261
    go_wp2_with fail
    refine (zcp _ _).mono ?_
    rintro e w' ⟨rfl, rfl⟩
    simp only [HL.out]
    go_wp2
    go_ret
    refine ⟨?_, rfl⟩
    rw [HW.out, ← or128]
    rfl
   ·have HW : Hid (V.wt s.data.toList i = s[i].toNat) := zu8 (by
      unfold V.wt; rw [if_neg (by rw [zh]; omega), HG.out, if_neg h1, if_pos]
      unfold V.lett; rw [hL])
    have HL := zu8 hL
    clear hL h1
    go_enter Tryz.func261, Tryz.ntmps261
    go_wp2_with fail
    refine (zcp _ _).mono ?_
    rintro e w' ⟨rfl, rfl⟩
    simp only [HL.out]
    go_wp2
    go_ret
    exact ⟨zu HW.out.symm, rfl⟩
 ·have HW : Hid (V.wt s.data.toList i = 2) := zu8 (by unfold V.wt; rw [if_pos (by rw [zh]; omega)])
  exact zx8
theorem zpe (x : Int) (w : World) :
  Calls Tryz.prog 262 #[.int .u8 x] w fun e w' => e = .returned (.bool false) /\ w = w' := by
 have h : (x != x) = false := by simp
 go_enter Tryz.func262, Tryz.ntmps262
 go_wp2
 go_ret
 exact ⟨ze (by simp), rfl⟩
theorem zo7 (x y : Int) (w : World) :
  Calls Tryz.prog 260 #[.int .u8 x, .int .u8 y] w fun e w' => e = .returned (.int .i64 (Lib.compareInt x y)) /\ w = w' := by
 go_enter Tryz.func260, Tryz.ntmps260
 go_wp2_with (go_at_call 262; refine (zpe _ _).mono ?_; rintro e w' ⟨rfl, rfl⟩)
 all_goals go_ret
 all_goals exact ⟨zu (by unfold Lib.compareInt; (repeat' split) <;> omega), rfl⟩
theorem zox (x y : V.Bs) (k : Nat) (hk : k < max x.length y.length) (h : ∀ j, j < k -> Lib.compareInt (V.wt x j) (V.wt y j) = 0) (h0 : Lib.compareInt (V.wt x k) (V.wt y k) ≠ 0) :
  V.wcmp x y = Lib.compareInt (V.wt x k) (V.wt y k) := by
 have e : ∀ j, j < max x.length y.length -> ((List.range (max x.length y.length)).map fun i => Lib.compareInt (V.wt x i) (V.wt y i)).getD j 0 = Lib.compareInt (V.wt x j) (V.wt y j) := fun j hj => by
  simp [List.getD, List.getElem?_range hj]
 unfold V.wcmp
 rw [V.orI_hit _ k (fun j hj => by rw [e j (by omega)]; exact h j hj) (by simpa using hk) (by rw [e k hk]; exact h0), e k hk]
theorem zkx (x y : V.Bs) (h : ∀ j, j < max x.length y.length -> Lib.compareInt (V.wt x j) (V.wt y j) = 0) : V.wcmp x y = 0 := by
 have e : ∀ j, j < max x.length y.length -> ((List.range (max x.length y.length)).map fun i => Lib.compareInt (V.wt x i) (V.wt y i)).getD j 0 = Lib.compareInt (V.wt x j) (V.wt y j) := fun j hj => by
  simp [List.getD, List.getElem?_range hj]
 unfold V.wcmp
 exact V.orI_zero _ (fun j hj => by have g0 : j < max x.length y.length := by simpa using hj
                                    rw [e j g0]; exact h j g0)
theorem zwf {P : Prop} (h : P := by
 by_cases ha : a.data.toList = []
 ·have hb : b.data.toList ≠ [] := fun e => HNE.out (by rw [ha, e]; rfl)
  have := V.xv _ hb
  rw [hyb] at this
  simp only [hqb, zh] at this
  simp only at l1 l3; omega
 ·have := V.xv _ ha
  rw [hxa] at this
  simp only [hpa, zh] at this
  simp only at l2 l4; omega) : P := h
theorem zwm {P : Prop} (h : P := by
 have HR : Hid (V.qi s.data.toList t.data.toList = V.numbers p q) := zu8 (by
   rw [HSTEP.out, HZ0.out, V.ue, V.js h0])
 have hb : (V.numbers p q != 0) = true := by simpa using h0
 generalize V.numbers p q = c at *
 clear h0
 go_wp2
 go_ret
 exact ⟨zu HR.out.symm, HB5.out⟩) : P := h
theorem zwx {P : Prop} (h : P := by
 have HR : Hid (V.qi s.data.toList t.data.toList = 0) := zu8 (by
   rw [Lib.toList_data] at hea heb
   rw [← HT.out, List.isEmpty_iff.1 hea, List.isEmpty_iff.1 heb]; rfl)
 go_wp2
 go_ret
 exact ⟨zu HR.out.symm, HB.out⟩) : P := h
theorem zyp {P : Prop} (h : P := by
 clear h0
 go_wp2
 go_ret
 exact ⟨zu HR.out.symm, HB2.out⟩) : P := h
theorem ztq (s t : ByteArray) (w : World) (hs : s.size ≤ maxLen) (ht : t.size ≤ maxLen) :
  Calls Tryz.prog 255 #[.agg #[], .string s, .string t] w fun e w' => e = .returned (.int .i64 (V.qi s.data.toList t.data.toList)) /\ Below w.heap.size w w' := by
 unfold maxLen at hs ht
 go_enter Tryz.func255, Tryz.ntmps255
 go_wp2
 go_loopw [1, 2] (fun v1 v2 wr => ∃ a b : ByteArray, v1 = .string a /\ v2 = .string b /\ a.size ≤ s.size /\ b.size ≤ t.size /\ V.qi a.data.toList b.data.toList = V.qi s.data.toList t.data.toList /\ Below w.heap.size w wr) (fun v1 v2 _ => szOf v1 + szOf v2)
 case atStart => exact ⟨s, t, rfl, rfl, zva _, zva _, rfl, (zvb _ _).alloc (zva _) _⟩
 case round =>
  obtain ⟨a, b, rfl, rfl, h5, h6, g4, hB⟩ := hrel
  have HT := zu8 g4
  have HB := zu8 hB
  clear g4 hB
  rcases hea : a.toList.isEmpty with _ | _ <;> rcases heb : b.toList.isEmpty with _ | _
  case true.true =>
   exact zwx
  all_goals
   have g1 : ¬ (a.data.toList.isEmpty && b.data.toList.isEmpty) = true := by rw [← Lib.toList_data, ← Lib.toList_data, hea, heb]; simp
   have g0 := V.zdn _ _ g1
   have HNE := zu8 g1
   clear g1
   obtain ⟨x, a1, hxa⟩ : ∃ x a1, V.zx a.data.toList false = (x, a1) := ⟨_, _, rfl⟩
   obtain ⟨y, b1, hyb⟩ : ∃ y b1, V.zx b.data.toList false = (y, b1) := ⟨_, _, rfl⟩
   obtain ⟨p, a2, hpa⟩ : ∃ p a2, V.zx a1 true = (p, a2) := ⟨_, _, rfl⟩
   obtain ⟨q, b2, hqb⟩ : ∃ q b2, V.zx b1 true = (q, b2) := ⟨_, _, rfl⟩
   have l1 := V.ql a.data.toList false
   have l2 := V.ql b.data.toList false
   have l3 := V.ql a1 true
   have l4 := V.ql b1 true
   rw [hxa, zh] at l1
   rw [hyb, zh] at l2
   rw [hpa] at l3
   rw [hqb] at l4
   have l5 : a2.length + b2.length < a.size + b.size := by
    exact zwf
   rw [hxa, hyb] at g0
   simp only [hpa, hqb] at g0
   rw [HT.out] at g0
   have HSTEP := zu8 g0
   have g6 := zu8 hxa
   have g7 := zu8 hyb
   have g8 := zu8 hpa
   have g9 := zu8 hqb
   simp only at l1 l2 l3 l4
   have m1 : x.length ≤ s.size := by omega
   have m2 : y.length ≤ t.size := by omega
   have m3 : a1.length ≤ s.size := by omega
   have m4 : b1.length ≤ t.size := by omega
   have m5 : a2.length ≤ s.size := by omega
   have m6 : b2.length ≤ t.size := by omega
   have L5 := zu8 l5
   clear g0 hxa hyb hpa hqb l1 l2 l3 l4 l5
   go_wp2_with fail
   refine (zft a false _ (by unfold maxLen; omega)).mono ?_
   rintro e w1 ⟨rfl, hb1⟩
   simp only [g6.out]
   go_wp2_with fail
   refine (zft b false _ (by unfold maxLen; omega)).mono ?_
   rintro e w2 ⟨rfl, hb2⟩
   simp only [g7.out]
   have HB2 := zu8 (HB.out.trans ((hb1.trans (hb2.mono hb1.size)).mono HB.out.size))
   clear hb1 hb2
   go_wp2
   go_loop [9] (fun i => ∃ k : Nat, k ≤ max x.length y.length /\ i = .int .i64 k /\ ∀ j, j < k -> Lib.compareInt (V.wt x j) (V.wt y j) = 0) (fun i => max x.length y.length - (intOf i).toNat)
   case atStart => exact ⟨0, Nat.zero_le _, rfl, fun j hj => by omega⟩
   case round =>
    obtain ⟨k, hk, rfl, hz⟩ := hrel
    have HZ := zu8 hz
    clear hz
    by_cases hlt : k < max x.length y.length
    ·have h3 : (k < x.length) ∨ (¬ k < x.length /\ k < y.length) := by omega
     have g2 := zox x y k hlt HZ.out
     have g5 := zu8 g2
     have h4 := zu8 hlt
     clear g2 hlt
     rcases h3 with h1 | ⟨h1, h2⟩
     all_goals
      go_wp2_with fail
      refine (zi7 ⟨x.toArray⟩ k _ (by show x.length ≤ _; unfold maxLen; omega) (by unfold maxLen; omega)).mono ?_
      rintro e w' ⟨rfl, rfl⟩
      go_wp2_with fail
      refine (zi7 ⟨y.toArray⟩ k _ (by show y.length ≤ _; unfold maxLen; omega) (by unfold maxLen; omega)).mono ?_
      rintro e w' ⟨rfl, rfl⟩
      go_wp2_with fail
      refine (zo7 _ _ _).mono ?_
      rintro e w' ⟨rfl, rfl⟩
      simp only
      by_cases h0 : Lib.compareInt (V.wt x k) (V.wt y k) = 0
      ·have HR : Hid (∀ j, j < k + 1 -> Lib.compareInt (V.wt x j) (V.wt y j) = 0) := zu8 (fun j hj => by
         by_cases e : j = k
         · subst e; exact h0
         · exact HZ.out j (by omega))
       rw [h0]
       have h7 := h4.out
       exact zw1
      ·have HR : Hid (V.qi s.data.toList t.data.toList = Lib.compareInt (V.wt x k) (V.wt y k)) := zu8 (by
         rw [HSTEP.out, g5.out h0, V.js h0])
       have hb : (Lib.compareInt (V.wt x k) (V.wt y k) != 0) = true := by simpa using h0
       generalize Lib.compareInt (V.wt x k) (V.wt y k) = c at *
       exact zyp
    ·have HZ0 : Hid (V.wcmp x y = 0) := zu8 (zkx x y (fun j hj => HZ.out j (by omega)))
     have h1 : ¬ k < x.length := by omega
     have h2 : ¬ k < y.length := by omega
     clear hlt
     go_wp2_with fail
     refine (zft ⟨a1.toArray⟩ true _ (by show a1.length ≤ _; unfold maxLen; omega)).mono ?_
     rintro e w3 ⟨rfl, hb3⟩
     simp only [g8.out]
     go_wp2_with fail
     refine (zft ⟨b1.toArray⟩ true _ (by show b1.length ≤ _; unfold maxLen; omega)).mono ?_
     rintro e w4 ⟨rfl, g3⟩
     simp only [g9.out]
     go_wp2_with fail
     refine (vt ⟨p.toArray⟩ ⟨q.toArray⟩ _).mono ?_
     rintro e w5 ⟨rfl, hb5⟩
     simp only
     have HB5 := zu8 (HB2.out.trans ((hb3.trans ((g3.trans (hb5.mono g3.size)).mono hb3.size)).mono HB2.out.size))
     clear hb3 g3 hb5
     by_cases h0 : V.numbers p q = 0
     ·have HR : Hid (V.qi a2 b2 = V.qi s.data.toList t.data.toList) := zu8 (by
        rw [HSTEP.out, HZ0.out, h0]; rfl)
      rw [h0]
      clear h0
      go_wp2
      go_roundw
      case rel => exact ⟨⟨a2.toArray⟩, ⟨b2.toArray⟩, rfl, rfl, m5, m6, by simp only ; exact HR.out, HB5.out⟩
      case measure => exact L5.out
     ·exact zwm
theorem texts_at (x y : V.Bs) (w : World) (hx : x.length ≤ 1000) (hy : y.length ≤ 1000) :
  Calls Tryz.prog 255 #[.agg #[], .string ⟨x.toArray⟩, .string ⟨y.toArray⟩] w fun e w' => e = .returned (.int .i64 (V.qi x y)) /\ Below w.heap.size w w' := by
 have h := ztq ⟨x.toArray⟩ ⟨y.toArray⟩ w (by show x.length ≤ _; unfold maxLen; omega) (by show y.length ≤ _; unfold maxLen; omega)
 simp only  at h
 exact h
open Go.RowKit
theorem zg2 {E v a b c : V.Bs} (h : V.jc E v = some (a, b, c)) : a = E /\ b.length ≤ v.length /\ c.length ≤ v.length := by
 unfold V.jc at h
 split at h
 ·split at h
  ·simp at h; obtain ⟨rfl, rfl, rfl⟩ := h; simp
  ·cases h
 ·split at h
  ·split at h
   ·simp at h; obtain ⟨rfl, rfl, rfl⟩ := h; simp; omega
   ·cases h
  ·cases h
theorem zfz {v a b c : V.Bs} (h : V.zw v = some (a, b, c)) : a.length ≤ v.length /\ b.length ≤ v.length /\ c.length ≤ v.length := by
 unfold V.zw at h
 have hl := yg 58 v
 split at h
 ·split at h
  ·have := zg2 h; obtain ⟨rfl, h1, h2⟩ := this; omega
  ·cases h
 ·have := zg2 h; obtain ⟨rfl, h1, h2⟩ := this; simp; omega
theorem ziw (s t : ByteArray) (x0 x1 x2 y0 y1 y2 : V.Bs) (w : World) (hm : zj w) (hs : s.size ≤ 1000) (ht : t.size ≤ 1000)
  (hp : V.zw s.data.toList = some (x0, x1, x2)) (hq : V.zw t.data.toList = some (y0, y1, y2)) :
  Calls Tryz.prog 251 #[.agg #[], .string s, .string t] w fun e w' => e = .returned (.int .i64 (V.yv (x0, x1, x2) (y0, y1, y2))) /\ Below w.heap.size w w' := by
 have HF : Hid (V.yv (x0, x1, x2) (y0, y1, y2) = V.orI [V.numbers x0 y0, V.qi x1 y1, V.qi x2 y2]) := rfl
 have g6 : Below w.heap.size w (w.alloc (.cells #[] 204)) := (zvb _ w).alloc (zva _) _
 have g8 := hm.below g6
 have g9 := zfz hp
 have h0 := zfz hq
 rw [zh] at g9 h0
 obtain ⟨lx0, lx1, lx2⟩ := g9
 obtain ⟨ly0, ly1, ly2⟩ := h0
 have HP := zu8 hp
 have HQ := zu8 hq
 have HB0 := zu8 g6
 clear hp hq g6
 go_enter Tryz.func251, Tryz.ntmps251
 go_wp2_with fail
 refine (zad s _ g8 hs).mono ?_
 rintro e w1 h
 obtain ⟨rfl, hb1⟩ := zcb h HP.out
 have g7 := HB0.out.trans (hb1.mono HB0.out.size)
 have HB1 := zu8 g7
 have h1 := hm.below g7
 clear h hb1 g7
 go_wp2_with fail
 have g4 : Below w1.heap.size w1 (w1.alloc (.cells #[.string ⟨x0.toArray⟩, .string ⟨x1.toArray⟩, .string ⟨x2.toArray⟩] 280)) := (zvb _ _).alloc (zva _) _
 refine (zad t _ (h1.below g4) ht).mono ?_
 rintro e w2 h
 obtain ⟨rfl, hb2⟩ := zcb h HQ.out
 have h2 : ∀ i, w2.cell? ⟨w1.heap.size, i, none⟩ = #[Value.string ⟨x0.toArray⟩, .string ⟨x1.toArray⟩, .string ⟨x2.toArray⟩][i]? := qy hb2 (by simp) (fun i => by rw [zg, if_pos rfl])
 have h3 := g4.trans (hb2.mono g4.size)
 have h4 : w1.heap.size < w2.heap.size := Nat.lt_of_lt_of_le (by simp) hb2.size
 have HB2 := zu9 HB1 h3
 clear h hb2 g4 h3
 go_wp2_with fail
 obtain ⟨W3, g3⟩ : ∃ W3, W3 = w2.alloc (.cells #[.string ⟨y0.toArray⟩, .string ⟨y1.toArray⟩, .string ⟨y2.toArray⟩] 280) := ⟨_, rfl⟩
 rw [← g3]
 have hb3 : Below w2.heap.size w2 W3 := by rw [g3]; exact (zvb _ _).alloc (zva _) _
 have e : ∀ i, W3.cell? ⟨w1.heap.size, i, none⟩ = #[Value.string ⟨x0.toArray⟩, .string ⟨x1.toArray⟩, .string ⟨x2.toArray⟩][i]? := qy hb3 h4 h2
 have g : ∀ i, W3.cell? ⟨w2.heap.size, i, none⟩ = #[Value.string ⟨y0.toArray⟩, .string ⟨y1.toArray⟩, .string ⟨y2.toArray⟩][i]? := fun i => by rw [g3, zg, if_pos rfl]
 have e0 := e 0
 have e1 := e 1
 have e2 := e 2
 have g0 := g 0
 have g1 := g 1
 have g2 := g 2
 simp at e0 e1 e2 g0 g1 g2
 have HB3 := zu9 HB2 hb3
 have h6 : w2.heap.size < W3.heap.size := by rw [g3]; simp
 have hz4 : w1.heap.size < W3.heap.size := by omega
 clear g3 hb3 e g h2 g8 h1 HB1 HB2 HB0
 go_region_held3 (fun W' => (W'.cell? ⟨w1.heap.size, 0, none⟩ = some (.string ⟨x0.toArray⟩) /\ W'.cell? ⟨w1.heap.size, 1, none⟩ = some (.string ⟨x1.toArray⟩) /\ W'.cell? ⟨w1.heap.size, 2, none⟩ = some (.string ⟨x2.toArray⟩) /\
     W'.cell? ⟨w2.heap.size, 0, none⟩ = some (.string ⟨y0.toArray⟩) /\ W'.cell? ⟨w2.heap.size, 1, none⟩ = some (.string ⟨y1.toArray⟩) /\ W'.cell? ⟨w2.heap.size, 2, none⟩ = some (.string ⟨y2.toArray⟩)))
  (first
    | go_keep
    | (go_split_ands
       refine ⟨?_, ?_, ?_, ?_, ?_, ?_⟩ <;> (refine zdy g5 ?_; first | assumption | (simp only [World.cell?_drew]; assumption))))
  (first
    | (go_at_call 229; refine (vt _ _ _).mono ?_; rintro e wq ⟨rfl, g5⟩)
    | (go_at_call 255; refine (texts_at _ _ _ (by omega) (by omega)).mono ?_; rintro e wq ⟨rfl, g5⟩)
    | (go_at_call 152; refine (zm4 _ [V.numbers x0 y0, V.qi x1 y1, V.qi x2 y2] _ (by simp) (zjd _ _ _ _ _)).mono ?_; rintro e wq ⟨rfl, rfl⟩))
 rename_i wa hba wb hbb hS
 have h5 : Below W3.heap.size W3 wq := ((zvb W3.heap.size W3).drew).trans (Below.trans (show Below W3.heap.size W3.drew wa from hba) ((hbb.trans (g5.mono hbb.size)).mono hba.size))
 have HB4 := zu9 HB3 h5
 clear e0 e1 e2 g0 g1 g2 hba hbb g5 h5 hS HB3 h4 h6 hz4
 go_wp2
 go_ret
 exact ⟨zu HF.out.symm, HB4.out.alloc HB4.out.size _⟩
def zs8 (l : List V.Bs) (w : World) (e : Ending) (w' : World) : Prop := ∃ v, e = .returned v /\ Strs w' v l /\ Below w.heap.size w w'
def lenOf : Value -> Nat
 | .slice _ n _ => n
 | _ => 0
theorem zqt {L : List V.Bs} {k : Nat} (hk : k < L.length) (h : (V.value (L.getD k [])).isEmpty = true) : V.qd (L.take (k + 1)) = V.qd (L.take k) := by
 rw [List.take_succ_eq_append_getElem hk]
 rw [jm hk] at h
 exact V.zkm _ _ h
theorem zp8 {L : List V.Bs} {k : Nat} (hk : k < L.length) (h : (V.value (L.getD k [])).isEmpty = false) : V.qd (L.take (k + 1)) = L.take (k + 1) := by
 rw [List.take_succ_eq_append_getElem hk]
 rw [jm hk] at h
 exact V.zkk _ _ h
theorem znb (s : ByteArray) (w : World) (hm : zj w) (hs : s.size ≤ 1000) :
  Calls Tryz.prog 266 #[.agg #[], .string s] w (zs8 (V.jk s.data.toList) w) := by
 have g1 : Below w.heap.size w (w.alloc (.cells #[] 205)) := (zvb _ w).alloc (zva _) _
 have g2 := hm.below g1
 obtain ⟨L, hL⟩ : ∃ L, V.zl 46 s.data.toList = L := ⟨_, rfl⟩
 have HP : Hid (V.jk s.data.toList = V.qd L) := zu8 (by unfold V.jk; rw [hL])
 have g5 : L.length ≤ s.size + 1 := by have := jf 46 s.data.toList; rw [hL, zh] at this; exact this
 have HL := zu8 hL
 have HB0 := zu8 g1
 clear hL g1
 go_enter Tryz.func266, Tryz.ntmps266
 go_wp2_with fail
 refine (ki s 46 _ g2 (by omega)).mono ?_
 rintro e w1 ⟨rfl, g0⟩
 simp only [HL.out, World.size_alloc] at g0 ⊢
 have hz : w.heap.size + 1 < w1.heap.size := by rw [g0]; simp
 have hcs : ∀ j, j < L.length -> w1.cell? ⟨w.heap.size + 1, j, none⟩ = some (.string ⟨(L.getD j []).toArray⟩) := fun j hj => by
  rw [g0, zg, if_pos (by simp), vv L j hj, jm hj]
 have HB1 : Hid (Below w.heap.size w w1) := zu8 (by rw [g0]; exact HB0.out.alloc HB0.out.size _)
 have g3 := zu8 hcs
 clear g0 hcs HB0 g2
 go_wp2
 go_loop [5] (fun v => ∃ k : Nat, k ≤ L.length /\ v = .slice (some ⟨w.heap.size + 1, 0, none⟩) k L.length /\ V.qd (L.take k) = V.qd L) (fun v => lenOf v)
 case atStart => exact ⟨L.length, zva _, rfl, by rw [List.take_of_length_le (zva _)]⟩
 case round =>
  obtain ⟨k, hk, rfl, g4⟩ := hrel
  have HST := zu8 g4
  clear g4
  have FIN : Hid (∀ l, l = L.take k -> V.qd L = l -> zs8 (V.jk s.data.toList) w (.returned (.slice (some ⟨w.heap.size + 1, 0, none⟩) k L.length)) w1) := zu8 (fun l hl hs => by
    refine ⟨_, rfl, ⟨some ⟨w.heap.size + 1, 0, none⟩, L.length, ?_, fun j hj => ⟨_, _, rfl, hz, ?_⟩⟩, HB1.out⟩
    · rw [HP.out, hs, hl, List.length_take, Nat.min_eq_left hk]
    · have hlt : j < L.length := by
        rw [HP.out, hs, hl, List.length_take] at hj; omega
      rw [Nat.zero_add, g3.out j hlt, jm hlt]
      congr 3
      have e : V.jk s.data.toList = L.take k := by rw [HP.out, hs, hl]
      simp only [e, List.getElem_take])
  cases k with
  | zero =>
   have HF := zu8 (FIN.out (L.take 0) rfl (by rw [← HST.out]; rfl))
   go_wp2
   go_ret
   exact HF.out
  | succ k =>
   have hcell := g3.out k (by omega)
   have g6 : ((k + 1 : Nat) : Int) = (k : Int) + 1 := by omega
   rcases hv : (V.value (L.getD k [])).isEmpty with _ | _
   all_goals
    have HV := zu8 hv
    clear hv
    generalize hX : L.getD k [] = X at *
    have HX := zu8 hX
    clear hX
    go_wp2_with fail
    refine (zgl ⟨X.toArray⟩ _).mono ?_
    rintro e w' ⟨rfl, rfl⟩
    simp only
    have hv := HV.out
    go_wp2
   ·have HF := zu8 (FIN.out (L.take (k + 1)) rfl (by rw [← HST.out]; exact zp8 (by omega) (by rw [HX.out]; exact HV.out)))
    go_ret
    exact HF.out
   ·go_round
    case rel => exact ⟨k, by omega, rfl, by rw [← zqt (k := k) (by omega) (by rw [HX.out]; exact HV.out)]; exact HST.out⟩
    case measure => simp [lenOf]
theorem zqc (a b : V.Bs) (W : World) : Calls Tryz.prog 229 (#[.string ⟨a.toArray⟩, .string ⟨b.toArray⟩] ++ #[]) W fun e w' => e = .returned (.int .i64 (V.numbers a b)) /\ Below W.heap.size W w' := by
 have h := vt ⟨a.toArray⟩ ⟨b.toArray⟩ W
 simp only  at h
 exact h
theorem zn1 (l : List V.Bs) : ∀ x ∈ V.qd l, x ∈ l := by
 intro x hx
 unfold V.qd at hx
 have := (List.dropWhile_sublist (l := l.reverse) (fun x => (V.value x).isEmpty)).subset (List.mem_reverse.1 hx)
 exact List.mem_reverse.1 this
theorem zmv (l : List V.Bs) : (V.qd l).length ≤ l.length := by
 unfold V.qd
 have := (List.dropWhile_sublist (l := l.reverse) (fun x => (V.value x).isEmpty)).length_le
 simpa using this
theorem zj4 (s t : ByteArray) (w : World) (hm : zj w) (hs : s.size ≤ 1000) (ht : t.size ≤ 1000) :
  Calls Tryz.prog 263 #[.agg #[], .string s, .string t] w fun e w' => e = .returned (.int .i64 (V.zaw s.data.toList t.data.toList)) /\ Below w.heap.size w w' := by
 have HF : Hid (V.zaw s.data.toList t.data.toList = V.jb V.numbers (V.jk s.data.toList) (V.jk t.data.toList)) := rfl
 have g1 : Below w.heap.size w (w.alloc (.cells #[] 205)) := (zvb _ w).alloc (zva _) _
 have g3 := hm.below g1
 have sz : ∀ r : ByteArray, r.size ≤ 1000 -> (V.jk r.data.toList).length ≤ 2000 /\ ∀ x ∈ V.jk r.data.toList, x.length ≤ 1000 := fun r hr => by
  refine ⟨?_, fun x hx => ?_⟩
  ·have h1 := zmv (V.zl 46 r.data.toList)
   have h2 := jf 46 r.data.toList
   rw [zh] at h2
   unfold V.jk; omega
  ·have h1 := jx 46 _ x (zn1 _ x hx)
   rw [zh] at h1; omega
 have SZ := zu8 sz
 have HB0 := zu8 g1
 clear sz g1
 go_enter Tryz.func263, Tryz.ntmps263
 go_wp2
 go_region_held3 (fun W' => zj W' /\ True)
  (first
    | (go_split_ands; exact ⟨zj.below (by assumption) g0, trivial⟩)
    | (exact ⟨g3, trivial⟩)
    | go_keep)
  (first
    | (go_at_call 266; refine (znb _ _ (by first | assumption | exact And.left (b := True) (by assumption) | exact zj.below (by assumption) (by assumption)) (by assumption)).mono ?_; rintro e wq ⟨vq, rfl, g4, g0⟩)
    | (go_at_call 230; refine (zcy _ _ (V.jk s.data.toList) (V.jk t.data.toList) _ #[] V.numbers _ (by first | assumption | exact Strs.below (by assumption) (by assumption)) (by first | assumption | exact Strs.below (by assumption) (by assumption)) (SZ.out s hs).1 (SZ.out t ht).1 (SZ.out s hs).2 (SZ.out t ht).2 (enters_of Tryz.func229 (by kernel_rfl) rfl) (fun x y W _ _ => zqc x y W)).mono ?_; rintro e wq ⟨rfl, g0⟩))
 rename_i wa va hsa hba wb hbb hH
 have g2 : Below w.heap.size w wq := HB0.out.trans ((((zvb _ (w.alloc (.cells #[] 205))).drew).trans (Below.trans (show Below (w.alloc (.cells #[] 205)).heap.size (w.alloc (.cells #[] 205)).drew wa from hba) ((hbb.trans (g0.mono hbb.size)).mono hba.size))).mono HB0.out.size)
 have HBX := zu8 g2
 clear hsa hba hbb hH g4 g0 g2
 go_wp2
 go_ret
 exact ⟨zu HF.out.symm, HBX.out⟩
open Go.RowKit
open Go.RowKit
theorem Strs.at {w : World} {a : Option Addr} {n cap : Nat} {l : List V.Bs} (h : Strs w (.slice a n cap) l) (j : Nat) (hj : j < l.length) :
  ∃ b off, a = some ⟨b, off, none⟩ /\ b < w.heap.size /\ w.cell? ⟨b, off + j, none⟩ = some (.string ⟨(l.getD j []).toArray⟩) := by
 obtain ⟨a', c, e, hc⟩ := h
 obtain ⟨b, off, ea, hb, hcell⟩ := hc j hj
 cases e
 refine ⟨b, off, ea, hb, ?_⟩
 rw [List.getD_eq_getElem?_getD, List.getElem?_eq_getElem hj]
 exact hcell
theorem Strs.slice {w : World} {v : Value} {l : List V.Bs} (h : Strs w v l) : ∃ a cap, v = .slice a l.length cap := by
 obtain ⟨a, c, e, _⟩ := h
 exact ⟨a, c, e⟩
theorem Strs.head {w : World} {v : Value} {l : List V.Bs} (h : Strs w v l) (h0 : 0 < l.length) :
  ∃ b off cap, v = .slice (some ⟨b, off, none⟩) l.length cap /\ b < w.heap.size /\ ∀ j, j < l.length -> w.cell? ⟨b, off + j, none⟩ = some (.string ⟨(l.getD j []).toArray⟩) := by
 obtain ⟨a, c, e, hc⟩ := h
 obtain ⟨b, off, rfl, hb, _⟩ := hc 0 h0
 refine ⟨b, off, c, e, hb, fun j hj => ?_⟩
 obtain ⟨b', off', ea, _, hcell⟩ := hc j hj
 cases ea
 rw [List.getD_eq_getElem?_getD, List.getElem?_eq_getElem hj]
 exact hcell
open Go.RowKit
theorem zuz (k : Nat) (w : World) : (method (k + 1) 203 (.agg #[]) "admission/version.compare").run Tryz.prog w = .ok (225, .agg #[]) w := by kernel_rfl
theorem zux (k : Nat) (w : World) : (method (k + 1) 204 (.agg #[]) "admission/version.compare").run Tryz.prog w = .ok (251, .agg #[]) w := by kernel_rfl
theorem zut (k : Nat) (w : World) : (method (k + 1) 205 (.agg #[]) "admission/version.compare").run Tryz.prog w = .ok (263, .agg #[]) w := by kernel_rfl
end Go.Proofs.YtbikeahmldobkaaGreatDoor
