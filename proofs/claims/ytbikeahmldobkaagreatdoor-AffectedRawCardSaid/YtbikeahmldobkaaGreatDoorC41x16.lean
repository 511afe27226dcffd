/-
  Lemmas for the law.
-/
import Derived.Test.YtbikeahmldobkaaGreatDoorC41x15
import Derived.Test.YtbikeahmldobkaaGreatDoorC41x12
import Derived.Test.YtbikeahmldobkaaGreatDoorC41x09
import Derived.Test.YtbikeahmldobkaaGreatDoorC41x04
import Derived.Test.YtbikeahmldobkaaGreatDoorC41x03
import Derived.Test.YtbikeahmldobkaaGreatDoorC41x11
import Derived.Lib.BufSteps
import Derived.OwnWalk
set_option linter.all false
set_option maxRecDepth 100000
set_option maxHeartbeats 3200000
namespace Go.Proofs.YtbikeahmldobkaaGreatDoor
open Go.RowKit
theorem zkb (x y : V.Bs) (k : Nat) (hk : k < max x.length y.length) (h : ∀ j, j < k -> Lib.compareInt (V.wt x j) (V.wt y j) = 0) (h0 : Lib.compareInt (V.wt x k) (V.wt y k) ≠ 0) :
  V.wcmp x y = Lib.compareInt (V.wt x k) (V.wt y k) := by
 have e : ∀ j, j < max x.length y.length -> ((List.range (max x.length y.length)).map fun i => Lib.compareInt (V.wt x i) (V.wt y i)).getD j 0 = Lib.compareInt (V.wt x j) (V.wt y j) := fun j hj => by
  simp [List.getD, List.getElem?_range hj]
 unfold V.wcmp
 rw [V.orI_hit _ k (fun j hj => by rw [e j (by omega)]; exact h j hj) (by simpa using hk) (by rw [e k hk]; exact h0), e k hk]
theorem zgy (x y : V.Bs) (h : ∀ j, j < max x.length y.length -> Lib.compareInt (V.wt x j) (V.wt y j) = 0) : V.wcmp x y = 0 := by
 have e : ∀ j, j < max x.length y.length -> ((List.range (max x.length y.length)).map fun i => Lib.compareInt (V.wt x i) (V.wt y i)).getD j 0 = Lib.compareInt (V.wt x j) (V.wt y j) := fun j hj => by
  simp [List.getD, List.getElem?_range hj]
 unfold V.wcmp
 exact V.orI_zero _ (fun j hj => by have hj' : j < max x.length y.length := by simpa using hj
                                    rw [e j hj']; exact h j hj')
theorem zqe {P : Prop} (h : P := by
 by_cases ha : a.data.toList = []
 ·have hb : b.data.toList ≠ [] := fun e => HNE.out (by rw [ha, e]; rfl)
  have := V.kf _ hb
  rw [hyb] at this
  simp only [hqb, zi] at this
  simp only at l1 l3; omega
 ·have := V.kf _ ha
  rw [hxa] at this
  simp only [hpa, zi] at this
  simp only at l2 l4; omega) : P := h
theorem zqk {P : Prop} (h : P := by
 have HR : Hid (V.zx s.data.toList t.data.toList = V.numbers p q) := zpa (by
   rw [HSTEP.out, HZ0.out, V.xf, V.jb h0])
 have hb : (V.numbers p q != 0) = true := by simpa using h0
 generalize V.numbers p q = c at *
 clear h0
 go_wp2
 go_ret
 exact ⟨zn HR.out.symm, HB5.out⟩) : P := h
theorem zqw {P : Prop} (h : P := by
 have HR : Hid (V.zx s.data.toList t.data.toList = 0) := zpa (by
   rw [Lib.toList_data] at hea heb
   rw [← HT.out, List.isEmpty_iff.1 hea, List.isEmpty_iff.1 heb]; rfl)
 go_wp2
 go_ret
 exact ⟨zn HR.out.symm, HB.out⟩) : P := h
theorem zsd {P : Prop} (h : P := by
 clear h0
 go_wp2
 go_ret
 exact ⟨zn HR.out.symm, HB2.out⟩) : P := h
theorem zn2 (s t : ByteArray) (w : World) (hs : s.size ≤ maxLen) (ht : t.size ≤ maxLen) :
  Calls Tryz.prog 255 #[.agg #[], .string s, .string t] w fun e w' => e = .returned (.int .i64 (V.zx s.data.toList t.data.toList)) /\ Below w.heap.size w w' := by
 unfold maxLen at hs ht
 go_enter Tryz.func255, Tryz.ntmps255
 go_wp2
 go_loopw [1, 2] (fun v1 v2 wr => ∃ a b : ByteArray, v1 = .string a /\ v2 = .string b /\ a.size ≤ s.size /\ b.size ≤ t.size /\ V.zx a.data.toList b.data.toList = V.zx s.data.toList t.data.toList /\ Below w.heap.size w wr) (fun v1 v2 _ => szOf v1 + szOf v2)
 case atStart => exact ⟨s, t, rfl, rfl, zpc _, zpc _, rfl, (zpd _ _).alloc (zpc _) _⟩
 case round =>
  obtain ⟨a, b, rfl, rfl, has, hbt, htx, hB⟩ := hrel
  have HT := zpa htx
  have HB := zpa hB
  clear htx hB
  rcases hea : a.toList.isEmpty with _ | _ <;> rcases heb : b.toList.isEmpty with _ | _
  case true.true =>
   exact zqw
  all_goals
   have hne : ¬ (a.data.toList.isEmpty && b.data.toList.isEmpty) = true := by rw [← Lib.toList_data, ← Lib.toList_data, hea, heb]; simp
   have hstep := V.zay _ _ hne
   have HNE := zpa hne
   clear hne
   obtain ⟨x, a1, hxa⟩ : ∃ x a1, V.zt a.data.toList false = (x, a1) := ⟨_, _, rfl⟩
   obtain ⟨y, b1, hyb⟩ : ∃ y b1, V.zt b.data.toList false = (y, b1) := ⟨_, _, rfl⟩
   obtain ⟨p, a2, hpa⟩ : ∃ p a2, V.zt a1 true = (p, a2) := ⟨_, _, rfl⟩
   obtain ⟨q, b2, hqb⟩ : ∃ q b2, V.zt b1 true = (q, b2) := ⟨_, _, rfl⟩
   have l1 := V.qa a.data.toList false
   have l2 := V.qa b.data.toList false
   have l3 := V.qa a1 true
   have l4 := V.qa b1 true
   rw [hxa, zi] at l1
   rw [hyb, zi] at l2
   rw [hpa] at l3
   rw [hqb] at l4
   have l5 : a2.length + b2.length < a.size + b.size := by
    exact zqe
   rw [hxa, hyb] at hstep
   simp only [hpa, hqb] at hstep
   rw [HT.out] at hstep
   have HSTEP := zpa hstep
   have HXA := zpa hxa
   have HYB := zpa hyb
   have HPA := zpa hpa
   have HQB := zpa hqb
   simp only at l1 l2 l3 l4
   have m1 : x.length ≤ s.size := by omega
   have m2 : y.length ≤ t.size := by omega
   have m3 : a1.length ≤ s.size := by omega
   have m4 : b1.length ≤ t.size := by omega
   have m5 : a2.length ≤ s.size := by omega
   have m6 : b2.length ≤ t.size := by omega
   have L5 := zpa l5
   clear hstep hxa hyb hpa hqb l1 l2 l3 l4 l5
   go_wp2_with fail
   refine (zcn a false _ (by unfold maxLen; omega)).mono ?_
   rintro e w1 ⟨rfl, hb1⟩
   simp only [HXA.out]
   go_wp2_with fail
   refine (zcn b false _ (by unfold maxLen; omega)).mono ?_
   rintro e w2 ⟨rfl, hb2⟩
   simp only [HYB.out]
   have HB2 := zpa (HB.out.trans ((hb1.trans (hb2.mono hb1.size)).mono HB.out.size))
   clear hb1 hb2
   go_wp2
   go_loop [9] (fun i => ∃ k : Nat, k ≤ max x.length y.length /\ i = .int .i64 k /\ ∀ j, j < k -> Lib.compareInt (V.wt x j) (V.wt y j) = 0) (fun i => max x.length y.length - (intOf i).toNat)
   case atStart => exact ⟨0, Nat.zero_le _, rfl, fun j hj => by omega⟩
   case round =>
    obtain ⟨k, hk, rfl, hz⟩ := hrel
    have HZ := zpa hz
    clear hz
    by_cases hlt : k < max x.length y.length
    ·have hor : (k < x.length) ∨ (¬ k < x.length /\ k < y.length) := by omega
     have hcut := zkb x y k hlt HZ.out
     have HCUT := zpa hcut
     have HLT := zpa hlt
     clear hcut hlt
     rcases hor with h1 | ⟨h1, h2⟩
     all_goals
      go_wp2_with fail
      refine (zfi ⟨x.toArray⟩ k _ (by show x.length ≤ _; unfold maxLen; omega) (by unfold maxLen; omega)).mono ?_
      rintro e w' ⟨rfl, rfl⟩
      go_wp2_with fail
      refine (zfi ⟨y.toArray⟩ k _ (by show y.length ≤ _; unfold maxLen; omega) (by unfold maxLen; omega)).mono ?_
      rintro e w' ⟨rfl, rfl⟩
      go_wp2_with fail
      refine (zkk _ _ _).mono ?_
      rintro e w' ⟨rfl, rfl⟩
      simp only
      by_cases h0 : Lib.compareInt (V.wt x k) (V.wt y k) = 0
      ·have HR : Hid (∀ j, j < k + 1 -> Lib.compareInt (V.wt x j) (V.wt y j) = 0) := zpa (fun j hj => by
         by_cases e : j = k
         · subst e; exact h0
         · exact HZ.out j (by omega))
       rw [h0]
       have HL2 := HLT.out
       exact zqz
      ·have HR : Hid (V.zx s.data.toList t.data.toList = Lib.compareInt (V.wt x k) (V.wt y k)) := zpa (by
         rw [HSTEP.out, HCUT.out h0, V.jb h0])
       have hb : (Lib.compareInt (V.wt x k) (V.wt y k) != 0) = true := by simpa using h0
       generalize Lib.compareInt (V.wt x k) (V.wt y k) = c at *
       exact zsd
    ·have HZ0 : Hid (V.wcmp x y = 0) := zpa (zgy x y (fun j hj => HZ.out j (by omega)))
     have h1 : ¬ k < x.length := by omega
     have h2 : ¬ k < y.length := by omega
     clear hlt
     go_wp2_with fail
     refine (zcn ⟨a1.toArray⟩ true _ (by show a1.length ≤ _; unfold maxLen; omega)).mono ?_
     rintro e w3 ⟨rfl, hb3⟩
     simp only [HPA.out]
     go_wp2_with fail
     refine (zcn ⟨b1.toArray⟩ true _ (by show b1.length ≤ _; unfold maxLen; omega)).mono ?_
     rintro e w4 ⟨rfl, hb4⟩
     simp only [HQB.out]
     go_wp2_with fail
     refine (xw ⟨p.toArray⟩ ⟨q.toArray⟩ _).mono ?_
     rintro e w5 ⟨rfl, hb5⟩
     simp only
     have HB5 := zpa (HB2.out.trans ((hb3.trans ((hb4.trans (hb5.mono hb4.size)).mono hb3.size)).mono HB2.out.size))
     clear hb3 hb4 hb5
     by_cases h0 : V.numbers p q = 0
     ·have HR : Hid (V.zx a2 b2 = V.zx s.data.toList t.data.toList) := zpa (by
        rw [HSTEP.out, HZ0.out, h0]; rfl)
      rw [h0]
      clear h0
      go_wp2
      go_roundw
      case rel => exact ⟨⟨a2.toArray⟩, ⟨b2.toArray⟩, rfl, rfl, m5, m6, by simp only ; exact HR.out, HB5.out⟩
      case measure => exact L5.out
     ·exact zqk
theorem texts_at (x y : V.Bs) (w : World) (hx : x.length ≤ 1000) (hy : y.length ≤ 1000) :
  Calls Tryz.prog 255 #[.agg #[], .string ⟨x.toArray⟩, .string ⟨y.toArray⟩] w fun e w' => e = .returned (.int .i64 (V.zx x y)) /\ Below w.heap.size w w' := by
 have h := zn2 ⟨x.toArray⟩ ⟨y.toArray⟩ w (by show x.length ≤ _; unfold maxLen; omega) (by show y.length ≤ _; unfold maxLen; omega)
 simp only  at h
 exact h
theorem zdm {E v a b c : V.Bs} (h : V.qs E v = some (a, b, c)) : a = E /\ b.length ≤ v.length /\ c.length ≤ v.length := by
 unfold V.qs at h
 split at h
 ·split at h
  ·simp at h; obtain ⟨rfl, rfl, rfl⟩ := h; simp
  ·cases h
 ·split at h
  ·split at h
   ·simp at h; obtain ⟨rfl, rfl, rfl⟩ := h; simp; omega
   ·cases h
  ·cases h
theorem zct {v a b c : V.Bs} (h : V.zq v = some (a, b, c)) : a.length ≤ v.length /\ b.length ≤ v.length /\ c.length ≤ v.length := by
 unfold V.zq at h
 have hl := km 58 v
 split at h
 ·split at h
  ·have := zdm h; obtain ⟨rfl, h1, h2⟩ := this; omega
  ·cases h
 ·have := zdm h; obtain ⟨rfl, h1, h2⟩ := this; simp; omega
theorem zfa (s t : ByteArray) (x0 x1 x2 y0 y1 y2 : V.Bs) (w : World) (hm : zm w) (hs : s.size ≤ 1000) (ht : t.size ≤ 1000)
  (hp : V.zq s.data.toList = some (x0, x1, x2)) (hq : V.zq t.data.toList = some (y0, y1, y2)) :
  Calls Tryz.prog 251 #[.agg #[], .string s, .string t] w fun e w' => e = .returned (.int .i64 (V.xa (x0, x1, x2) (y0, y1, y2))) /\ Below w.heap.size w w' := by
 have HF : Hid (V.xa (x0, x1, x2) (y0, y1, y2) = V.orI [V.numbers x0 y0, V.zx x1 y1, V.zx x2 y2]) := rfl
 have hb0 : Below w.heap.size w (w.alloc (.cells #[] 204)) := (zpd _ w).alloc (zpc _) _
 have hm0 := hm.below hb0
 have hlx := zct hp
 have hly := zct hq
 rw [zi] at hlx hly
 obtain ⟨lx0, lx1, lx2⟩ := hlx
 obtain ⟨ly0, ly1, ly2⟩ := hly
 have HP := zpa hp
 have HQ := zpa hq
 have HB0 := zpa hb0
 clear hp hq hb0
 go_enter Tryz.func251, Tryz.ntmps251
 go_wp2_with fail
 refine (yo s _ hm0 hs).mono ?_
 rintro e w1 h
 obtain ⟨rfl, hb1⟩ := vj h HP.out
 have hB1 := HB0.out.trans (hb1.mono HB0.out.size)
 have HB1 := zpa hB1
 have hm1 := hm.below hB1
 clear h hb1 hB1
 go_wp2_with fail
 have hbc : Below w1.heap.size w1 (w1.alloc (.cells #[.string ⟨x0.toArray⟩, .string ⟨x1.toArray⟩, .string ⟨x2.toArray⟩] 280)) := (zpd _ _).alloc (zpc _) _
 refine (yo t _ (hm1.below hbc) ht).mono ?_
 rintro e w2 h
 obtain ⟨rfl, hb2⟩ := vj h HQ.out
 have hc2 : ∀ i, w2.cell? ⟨w1.heap.size, i, none⟩ = #[Value.string ⟨x0.toArray⟩, .string ⟨x1.toArray⟩, .string ⟨x2.toArray⟩][i]? := qk hb2 (by simp) (fun i => by rw [zj, if_pos rfl])
 have hB2 := hbc.trans (hb2.mono hbc.size)
 have hz2 : w1.heap.size < w2.heap.size := Nat.lt_of_lt_of_le (by simp) hb2.size
 have HB2 := zpb HB1 hB2
 clear h hb2 hbc hB2
 go_wp2_with fail
 obtain ⟨W3, hW3⟩ : ∃ W3, W3 = w2.alloc (.cells #[.string ⟨y0.toArray⟩, .string ⟨y1.toArray⟩, .string ⟨y2.toArray⟩] 280) := ⟨_, rfl⟩
 rw [← hW3]
 have hb3 : Below w2.heap.size w2 W3 := by rw [hW3]; exact (zpd _ _).alloc (zpc _) _
 have e : ∀ i, W3.cell? ⟨w1.heap.size, i, none⟩ = #[Value.string ⟨x0.toArray⟩, .string ⟨x1.toArray⟩, .string ⟨x2.toArray⟩][i]? := qk hb3 hz2 hc2
 have g : ∀ i, W3.cell? ⟨w2.heap.size, i, none⟩ = #[Value.string ⟨y0.toArray⟩, .string ⟨y1.toArray⟩, .string ⟨y2.toArray⟩][i]? := fun i => by rw [hW3, zj, if_pos rfl]
 have e0 := e 0
 have e1 := e 1
 have e2 := e 2
 have g0 := g 0
 have g1 := g 1
 have g2 := g 2
 simp at e0 e1 e2 g0 g1 g2
 have HB3 := zpb HB2 hb3
 have hz3 : w2.heap.size < W3.heap.size := by rw [hW3]; simp
 have hz4 : w1.heap.size < W3.heap.size := by omega
 clear hW3 hb3 e g hc2 hm0 hm1 HB1 HB2 HB0
 go_region_held3 (fun W' => (W'.cell? ⟨w1.heap.size, 0, none⟩ = some (.string ⟨x0.toArray⟩) /\ W'.cell? ⟨w1.heap.size, 1, none⟩ = some (.string ⟨x1.toArray⟩) /\ W'.cell? ⟨w1.heap.size, 2, none⟩ = some (.string ⟨x2.toArray⟩) /\
     W'.cell? ⟨w2.heap.size, 0, none⟩ = some (.string ⟨y0.toArray⟩) /\ W'.cell? ⟨w2.heap.size, 1, none⟩ = some (.string ⟨y1.toArray⟩) /\ W'.cell? ⟨w2.heap.size, 2, none⟩ = some (.string ⟨y2.toArray⟩)))
  (first
    | go_keep
    | (go_split_ands
       refine ⟨?_, ?_, ?_, ?_, ?_, ?_⟩ <;> (refine za2 hbq ?_; first | assumption | (simp only [World.cell?_drew]; assumption))))
  (first
    | (go_at_call 229; refine (xw _ _ _).mono ?_; rintro e wq ⟨rfl, hbq⟩)
    | (go_at_call 255; refine (texts_at _ _ _ (by omega) (by omega)).mono ?_; rintro e wq ⟨rfl, hbq⟩)
    | (go_at_call 152; refine (zi0 _ [V.numbers x0 y0, V.zx x1 y1, V.zx x2 y2] _ (by simp) (zfm _ _ _ _ _)).mono ?_; rintro e wq ⟨rfl, rfl⟩))
 rename_i wa hba wb hbb hS
 have hbx : Below W3.heap.size W3 wq := ((zpd W3.heap.size W3).drew).trans (Below.trans (show Below W3.heap.size W3.drew wa from hba) ((hbb.trans (hbq.mono hbb.size)).mono hba.size))
 have HB4 := zpb HB3 hbx
 clear e0 e1 e2 g0 g1 g2 hba hbb hbq hbx hS HB3 hz2 hz3 hz4
 go_wp2
 go_ret
 exact ⟨zn HF.out.symm, HB4.out.alloc HB4.out.size _⟩
open Go.RowKit
def zns (l : List V.Bs) (w : World) (e : Ending) (w' : World) : Prop := ∃ v, e = .returned v /\ Strs w' v l /\ Below w.heap.size w w'
def lenOf : Value -> Nat
 | .slice _ n _ => n
 | _ => 0
theorem zl3 {L : List V.Bs} {k : Nat} (hk : k < L.length) (h : (V.value (L.getD k [])).isEmpty = true) : V.zw (L.take (k + 1)) = V.zw (L.take k) := by
 rw [List.take_succ_eq_append_getElem hk]
 rw [qw hk] at h
 exact V.zgn _ _ h
theorem zln {L : List V.Bs} {k : Nat} (hk : k < L.length) (h : (V.value (L.getD k [])).isEmpty = false) : V.zw (L.take (k + 1)) = L.take (k + 1) := by
 rw [List.take_succ_eq_append_getElem hk]
 rw [qw hk] at h
 exact V.zgk _ _ h
theorem zi6 (s : ByteArray) (w : World) (hm : zm w) (hs : s.size ≤ 1000) :
  Calls Tryz.prog 266 #[.agg #[], .string s] w (zns (V.qt s.data.toList) w) := by
 have hb0 : Below w.heap.size w (w.alloc (.cells #[] 205)) := (zpd _ w).alloc (zpc _) _
 have hm0 := hm.below hb0
 obtain ⟨L, hL⟩ : ∃ L, V.zo 46 s.data.toList = L := ⟨_, rfl⟩
 have HP : Hid (V.qt s.data.toList = V.zw L) := zpa (by unfold V.qt; rw [hL])
 have hlen : L.length ≤ s.size + 1 := by have := qy 46 s.data.toList; rw [hL, zi] at this; exact this
 have HL := zpa hL
 have HB0 := zpa hb0
 clear hL hb0
 go_enter Tryz.func266, Tryz.ntmps266
 go_wp2_with fail
 refine (jm s 46 _ hm0 (by omega)).mono ?_
 rintro e w1 ⟨rfl, hw1⟩
 simp only [HL.out, World.size_alloc] at hw1 ⊢
 have hz : w.heap.size + 1 < w1.heap.size := by rw [hw1]; simp
 have hcs : ∀ j, j < L.length -> w1.cell? ⟨w.heap.size + 1, j, none⟩ = some (.string ⟨(L.getD j []).toArray⟩) := fun j hj => by
  rw [hw1, zj, if_pos (by simp), zal L j hj, qw hj]
 have HB1 : Hid (Below w.heap.size w w1) := zpa (by rw [hw1]; exact HB0.out.alloc HB0.out.size _)
 have HCS := zpa hcs
 clear hw1 hcs HB0 hm0
 go_wp2
 go_loop [5] (fun v => ∃ k : Nat, k ≤ L.length /\ v = .slice (some ⟨w.heap.size + 1, 0, none⟩) k L.length /\ V.zw (L.take k) = V.zw L) (fun v => lenOf v)
 case atStart => exact ⟨L.length, zpc _, rfl, by rw [List.take_of_length_le (zpc _)]⟩
 case round =>
  obtain ⟨k, hk, rfl, hst⟩ := hrel
  have HST := zpa hst
  clear hst
  have FIN : Hid (∀ l, l = L.take k -> V.zw L = l -> zns (V.qt s.data.toList) w (.returned (.slice (some ⟨w.heap.size + 1, 0, none⟩) k L.length)) w1) := zpa (fun l hl hs => by
    refine ⟨_, rfl, ⟨some ⟨w.heap.size + 1, 0, none⟩, L.length, ?_, fun j hj => ⟨_, _, rfl, hz, ?_⟩⟩, HB1.out⟩
    · rw [HP.out, hs, hl, List.length_take, Nat.min_eq_left hk]
    · have hlt : j < L.length := by
        rw [HP.out, hs, hl, List.length_take] at hj; omega
      rw [Nat.zero_add, HCS.out j hlt, qw hlt]
      congr 3
      have e : V.qt s.data.toList = L.take k := by rw [HP.out, hs, hl]
      simp only [e, List.getElem_take])
  cases k with
  | zero =>
   have HF := zpa (FIN.out (L.take 0) rfl (by rw [← HST.out]; rfl))
   go_wp2
   go_ret
   exact HF.out
  | succ k =>
   have hcell := HCS.out k (by omega)
   have hx1 : ((k + 1 : Nat) : Int) = (k : Int) + 1 := by omega
   rcases hv : (V.value (L.getD k [])).isEmpty with _ | _
   all_goals
    have HV := zpa hv
    clear hv
    generalize hX : L.getD k [] = X at *
    have HX := zpa hX
    clear hX
    go_wp2_with fail
    refine (zdc ⟨X.toArray⟩ _).mono ?_
    rintro e w' ⟨rfl, rfl⟩
    simp only
    have hv := HV.out
    go_wp2
   ·have HF := zpa (FIN.out (L.take (k + 1)) rfl (by rw [← HST.out]; exact zln (by omega) (by rw [HX.out]; exact HV.out)))
    go_ret
    exact HF.out
   ·go_round
    case rel => exact ⟨k, by omega, rfl, by rw [← zl3 (k := k) (by omega) (by rw [HX.out]; exact HV.out)]; exact HST.out⟩
    case measure => simp [lenOf]
theorem zlr (a b : V.Bs) (W : World) : Calls Tryz.prog 229 (#[.string ⟨a.toArray⟩, .string ⟨b.toArray⟩] ++ #[]) W fun e w' => e = .returned (.int .i64 (V.numbers a b)) /\ Below W.heap.size W w' := by
 have h := xw ⟨a.toArray⟩ ⟨b.toArray⟩ W
 simp only  at h
 exact h
theorem zjt (l : List V.Bs) : ∀ x ∈ V.zw l, x ∈ l := by
 intro x hx
 unfold V.zw at hx
 have := (List.dropWhile_sublist (l := l.reverse) (fun x => (V.value x).isEmpty)).subset (List.mem_reverse.1 hx)
 exact List.mem_reverse.1 this
theorem zir (l : List V.Bs) : (V.zw l).length ≤ l.length := by
 unfold V.zw
 have := (List.dropWhile_sublist (l := l.reverse) (fun x => (V.value x).isEmpty)).length_le
 simpa using this
theorem zf5 (s t : ByteArray) (w : World) (hm : zm w) (hs : s.size ≤ 1000) (ht : t.size ≤ 1000) :
  Calls Tryz.prog 263 #[.agg #[], .string s, .string t] w fun e w' => e = .returned (.int .i64 (V.uh s.data.toList t.data.toList)) /\ Below w.heap.size w w' := by
 have HF : Hid (V.uh s.data.toList t.data.toList = V.qm V.numbers (V.qt s.data.toList) (V.qt t.data.toList)) := rfl
 have hb0 : Below w.heap.size w (w.alloc (.cells #[] 205)) := (zpd _ w).alloc (zpc _) _
 have hm0 := hm.below hb0
 have sz : ∀ r : ByteArray, r.size ≤ 1000 -> (V.qt r.data.toList).length ≤ 2000 /\ ∀ x ∈ V.qt r.data.toList, x.length ≤ 1000 := fun r hr => by
  refine ⟨?_, fun x hx => ?_⟩
  ·have h1 := zir (V.zo 46 r.data.toList)
   have h2 := qy 46 r.data.toList
   rw [zi] at h2
   unfold V.qt; omega
  ·have h1 := ji 46 _ x (zjt _ x hx)
   rw [zi] at h1; omega
 have SZ := zpa sz
 have HB0 := zpa hb0
 clear sz hb0
 go_enter Tryz.func263, Tryz.ntmps263
 go_wp2
 go_region_held3 (fun W' => zm W' /\ True)
  (first
    | (go_split_ands; exact ⟨zm.below (by assumption) hbq, trivial⟩)
    | (exact ⟨hm0, trivial⟩)
    | go_keep)
  (first
    | (go_at_call 266; refine (zi6 _ _ (by first | assumption | exact And.left (b := True) (by assumption) | exact zm.below (by assumption) (by assumption)) (by assumption)).mono ?_; rintro e wq ⟨vq, rfl, hsq, hbq⟩)
    | (go_at_call 230; refine (wu _ _ (V.qt s.data.toList) (V.qt t.data.toList) _ #[] V.numbers _ (by first | assumption | exact Strs.below (by assumption) (by assumption)) (by first | assumption | exact Strs.below (by assumption) (by assumption)) (SZ.out s hs).1 (SZ.out t ht).1 (SZ.out s hs).2 (SZ.out t ht).2 (enters_of Tryz.func229 (by kernel_rfl) rfl) (fun x y W _ _ => zlr x y W)).mono ?_; rintro e wq ⟨rfl, hbq⟩))
 rename_i wa va hsa hba wb hbb hH
 have hbx : Below w.heap.size w wq := HB0.out.trans ((((zpd _ (w.alloc (.cells #[] 205))).drew).trans (Below.trans (show Below (w.alloc (.cells #[] 205)).heap.size (w.alloc (.cells #[] 205)).drew wa from hba) ((hbb.trans (hbq.mono hbb.size)).mono hba.size))).mono HB0.out.size)
 have HBX := zpa hbx
 clear hsa hba hbb hH hsq hbq hbx
 go_wp2
 go_ret
 exact ⟨zn HF.out.symm, HBX.out⟩
open Go.RowKit
theorem Strs.at {w : World} {a : Option Addr} {n cap : Nat} {l : List V.Bs} (h : Strs w (.slice a n cap) l) (j : Nat) (hj : j < l.length) :
  ∃ b off, a = some ⟨b, off, none⟩ /\ b < w.heap.size /\ w.cell? ⟨b, off + j, none⟩ = some (.string ⟨(l.getD j []).toArray⟩) := by
 obtain ⟨a', c, e, hc⟩ := h
 obtain ⟨b, off, ea, hb, hcell⟩ := hc j hj
 cases e
 refine ⟨b, off, ea, hb, ?_⟩
 rw [List.getD_eq_getElem?_getD, List.getElem?_eq_getElem hj]
 exact hcell
theorem Strs.slice {w : World} {v : Value} {l : List V.Bs} (h : Strs w v l) : ∃ a cap, v = .slice a l.length cap := by
 obtain ⟨a, c, e, _⟩ := h
 exact ⟨a, c, e⟩
theorem Strs.head {w : World} {v : Value} {l : List V.Bs} (h : Strs w v l) (h0 : 0 < l.length) :
  ∃ b off cap, v = .slice (some ⟨b, off, none⟩) l.length cap /\ b < w.heap.size /\ ∀ j, j < l.length -> w.cell? ⟨b, off + j, none⟩ = some (.string ⟨(l.getD j []).toArray⟩) := by
 obtain ⟨a, c, e, hc⟩ := h
 obtain ⟨b, off, rfl, hb, _⟩ := hc 0 h0
 refine ⟨b, off, c, e, hb, fun j hj => ?_⟩
 obtain ⟨b', off', ea, _, hcell⟩ := hc j hj
 cases ea
 rw [List.getD_eq_getElem?_getD, List.getElem?_eq_getElem hj]
 exact hcell
open Go.RowKit
open Go.RowKit
theorem zox (k : Nat) (w : World) : (method (k + 1) 203 (.agg #[]) "admission/version.compare").run Tryz.prog w = .ok (225, .agg #[]) w := by kernel_rfl
theorem zou (k : Nat) (w : World) : (method (k + 1) 204 (.agg #[]) "admission/version.compare").run Tryz.prog w = .ok (251, .agg #[]) w := by kernel_rfl
theorem zoq (k : Nat) (w : World) : (method (k + 1) 205 (.agg #[]) "admission/version.compare").run Tryz.prog w = .ok (263, .agg #[]) w := by kernel_rfl
end Go.Proofs.YtbikeahmldobkaaGreatDoor
