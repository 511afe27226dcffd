/-
  Lemmas for the law.
-/
import Derived.Test.YtnhfaincdabdkaaGreatDoorC32x22
import Derived.Test.YtnhfaincdabdkaaGreatDoorC32x20
import Derived.Test.YtnhfaincdabdkaaGreatDoorC32x15
set_option linter.all false
set_option maxRecDepth 100000
set_option maxHeartbeats 3200000
namespace Go.Proofs.YtnhfaincdabdkaaGreatDoor
open Go.RowKit
namespace V
def par (x : Bool) (i : Nat) : Bool := if i % 2 = 0 then x else !x
theorem zkb (x : Bool) : par x 0 = x := rfl
theorem zv (x : Bool) (i : Nat) : par x (i + 1) = !par x i := by
 unfold par
 rcases Nat.mod_two_eq_zero_or_one i with h | h
 ·rw [if_pos h, if_neg (show ¬ (i + 1) % 2 = 0 by omega)]
 ·rw [if_neg (show ¬ i % 2 = 0 by omega), if_pos (show (i + 1) % 2 = 0 by omega), Bool.not_not]
theorem zsn (x : Bool) (i : Nat) : par (!x) i = !par x i := by
 unfold par
 split
 ·rfl
 ·rfl
def alt : Bool -> List Cut -> List (Cut × Bool)
 | _, [] => []
 | x, c :: l => (c, !x) :: alt (!x) l
theorem xr : ∀ (x : Bool) (l : List Cut), (alt x l).length = l.length
 | _, [] => rfl
 | x, c :: l => by rw [alt, List.length_cons, List.length_cons, xr]
theorem zgo : ∀ (x : Bool) (l : List Cut) (j : Nat) (h : j < l.length), (alt x l)[j]? = some (l[j], par x (j + 1))
 | _, [], _, h => by simp at h
 | x, c :: l, 0, _ => by
  rw [zv, zkb]
  rfl
 | x, c :: l, j + 1, h => by
  rw [zv, ← zsn]
  exact zgo (!x) l j (by simpa using h)
theorem zqf : ∀ (x : Bool) (l : List Cut) (c : Cut), alt x (l ++ [c]) = alt x l ++ [(c, !par x l.length)]
 | x, [], c => rfl
 | x, d :: l, c => by
  show (d, !x) :: alt (!x) (l ++ [c]) = (d, !x) :: (alt (!x) l ++ _)
  rw [zqf, List.length_cons, zv, zsn]
def yl (x : Itv) : List (Cut × Bool) := (if x.lk = 0 then [] else [(x.low, true)]) ++ (if x.hk = 0 then [] else [(x.high, false)])
theorem zj6 : ∀ {n : Int} {l : List Itv}, Ord n l -> l.flatMap yl = alt (zo l) (zh l)
 | _, [], _ => rfl
 | n, x :: l, h => by
  have hl : zo l = false := by
   refine zeb h.2.2 (fun z hz => ?_)
   have := h.2.1 z hz
   unfold ut at this
   simp at this
   exact this.2.1
  have ih := zj6 h.2.2
  rw [hl] at ih
  have hf : zo (x :: l) = decide (x.lk = 0) := by
   unfold zo at hl ⊢
   rw [List.any_cons, hl, Bool.or_false]
  have tail : (if x.hk = 0 then [] else [(x.high, false)]) ++ l.flatMap yl = alt true ((if x.hk = 0 then [] else [x.high]) ++ zh l) := by
   by_cases hk : x.hk = 0
   ·have : l = [] := by
     rcases l with _ | ⟨z, l⟩
     ·rfl
     ·have := h.2.1 z (by simp)
      unfold ut at this
      simp [hk] at this
    subst this
    rw [if_pos hk, if_pos hk]
    rfl
   ·rw [if_neg hk, if_neg hk, ih]
    rfl
  rw [List.flatMap_cons, hf, zh]
  unfold yl
  rw [List.append_assoc, show (l.flatMap fun x => (if x.lk = 0 then [] else [(x.low, true)]) ++ (if x.hk = 0 then [] else [(x.high, false)])) = l.flatMap yl from rfl, tail]
  by_cases hk : x.lk = 0
  ·rw [if_pos hk, if_pos hk, decide_eq_true hk]
   rfl
  ·rw [if_neg hk, if_neg hk, decide_eq_false hk]
   rfl
end V
def jz (b : V.Cut × Bool) : List Value := [.string ⟨b.1.1.toArray⟩, .bool b.1.2, .bool b.2]
theorem jf (b : V.Cut × Bool) : (jz b).length = 3 := rfl
theorem jo (b : V.Cut × Bool) : ∀ u ∈ jz b, u.oneCell' = true := by
 intro u hu
 simp [jz] at hu
 rcases hu with rfl | rfl | rfl <;> rfl
theorem km : xj 244 3 32 := by
 have h : (match Tryz.prog.info? 244 with | some i => i.size == 3 && (i.bytes == 32 && (match i.zero with | some z => z.cells.size == 3 | none => false)) | none => false) = true := by kernel_rfl
 unfold xj
 cases hq : Tryz.prog.info? 244 with
 | none => rw [hq] at h; cases h
 | some i =>
  exact zu6
def BRow (w : World) (N : Nat) (v : Value) (l : List (V.Cut × Bool)) : Prop := GRow 244 3 jz w N v l
theorem zp0 {l : List V.Itv} {k : Nat} (h : k < l.length) : (l.take (k + 1)).flatMap V.yl = (l.take k).flatMap V.yl ++ V.yl l[k] := by
 rw [List.take_succ_eq_append_getElem h, List.flatMap_append]
 simp
theorem zrk (l : List V.Itv) (k : Nat) : ((l.take k).flatMap V.yl).length ≤ 2 * l.length := by
 have : ∀ m : List V.Itv, (m.flatMap V.yl).length ≤ 2 * m.length := fun m => by
  induction m with
  | nil => simp
  | cons x m ih =>
   rw [List.flatMap_cons, List.length_append, List.length_cons]
   unfold V.yl at ih ⊢
   rw [List.length_append]
   split <;> split <;> simp at * <;> omega
 have h := this (l.take k)
 rw [List.length_take] at h
 omega
theorem zns {l : List V.Itv} {k : Nat} (h : k < l.length) : V.zo (l.take (k + 1)) = (V.zo (l.take k) || decide (l[k].lk = 0)) := by
 unfold V.zo
 rw [List.take_succ_eq_append_getElem h, List.any_append]
 simp
theorem zvo {P : Prop} (h : P := by
 have HB7 : Hid (Below w.heap.size w W6) := zuq (HB6.out.trans (zl hg6 HBK5.out (zus _) (by simp; omega)))
 have HR7 : Hid (BRow W6 w.heap.size v6 ((l.take (k + 1)).flatMap V.yl)) := zuq (by rw [HST1.out, if_neg (show ¬ x.hk = 0 by simpa using hhk)]; exact hr6)
 have hN7 : w.heap.size ≤ W6.heap.size := HB7.out.size
 clear hr6 hg6
 go_wp2
 go_roundw
 case rel => exact ⟨k + 1, by omega, by go_num, HFV.out, HR7.out, HB7.out, hN7⟩
 case measure => simp [intOf]; omega) : P := h
theorem zx3 {P : Prop} (h : P := by
 go_wp2
 go_roundw
 case rel => exact ⟨k + 1, by omega, by go_num, HFV.out, HR7.out, HB5.out, hN5⟩
 case measure => simp [intOf]; omega) : P := h
theorem zew (n : Int) (v : Value) (l : List V.Itv) (w : World) (hv : Itvs w v l) (hl : l.length ≤ 1000) :
  Calls Tryz.prog 229 #[setV n v] w fun e w' => ∃ u, e = .returned (.tuple #[u, .bool (V.zo l)]) /\ BRow w' w.heap.size u (l.flatMap V.yl) /\ Below w.heap.size w w' := by
 have HV := zuq hv
 obtain ⟨va, vc, rfl⟩ := hv.slice
 have hb0 : Below w.heap.size w (w.alloc (.cells #[.int .i64 n, .slice va l.length vc] 48)) := (zut _ w).alloc (zus _) _
 have HB0 := zuq hb0
 have c1 : (w.alloc (.cells #[.int .i64 n, .slice va l.length vc] 48)).cell? ⟨w.heap.size, 1, none⟩ = some (.slice va l.length vc) := by simp [zc]
 have hz0 : w.heap.size < (w.alloc (.cells #[.int .i64 n, .slice va l.length vc] 48)).heap.size := by simp
 clear hv hb0
 unfold setV
 go_enter Tryz.func229, Tryz.ntmps229
 go_wp2
 generalize w.alloc (.cells #[.int .i64 n, .slice va l.length vc] 48) = w0 at *
 go_loopw [4, 5, 11] (fun ov fv iv wx => ∃ k : Nat, k ≤ l.length /\ iv = .int .i64 k /\ fv = .bool (V.zo (l.take k)) /\ BRow wx w.heap.size ov ((l.take k).flatMap V.yl) /\ Below w.heap.size w wx /\ w.heap.size ≤ wx.heap.size) (fun _ _ iv _ => l.length - (intOf iv).toNat)
 case atStart => exact ⟨0, Nat.zero_le _, rfl, rfl, GRow.nil _ _, HB0.out, by omega⟩
 case round =>
  obtain ⟨k, hk, rfl, rfl, hrow, hbx, hsz⟩ := hrel
  have HROW := zuq hrow
  have HBX := zuq hbx
  obtain ⟨oa, oc, rfl⟩ := hrow.slice
  have HLT := zuq (GRow.lt hrow)
  have HBK := zuq (GRow.block hrow)
  clear hrow hbx
  by_cases hlt : k < l.length
  ·obtain ⟨b, off, rfl, hb0, hx⟩ := HV.out.at k hlt
   obtain ⟨h0, h1, h2, h3⟩ := hx.below hb0 HBX.out
   have hi1 : (0 : Int) ≤ (k : Int) := by omega
   have hi2 : (k : Int) < (l.length : Int) := by omega
   have HST := zuq (zp0 hlt)
   have HFT := zuq (zns hlt)
   have hlen := zrk l k
   clear hx
   generalize l[k] = x at *
   obtain ⟨F, hF⟩ : ∃ F, F = V.zo (l.take k) := ⟨_, rfl⟩
   obtain ⟨B, hB⟩ : ∃ B, B = (l.take k).flatMap V.yl := ⟨_, rfl⟩
   rw [← hF] at HFT ⊢
   rw [← hB] at HST HROW hlen HLT HBK ⊢
   clear hF hB
   have HBI : Hid (V.yl x = (if x.lk = 0 then [] else [(x.low, true)]) ++ (if x.hk = 0 then [] else [(x.high, false)])) := zuq rfl
   have hbA : Below wr.heap.size wr (wr.alloc (.cells #[.string ⟨x.lo.toArray⟩, .int .i64 x.lk, .string ⟨x.hi.toArray⟩, .int .i64 x.hk] 120)) := (zut _ wr).alloc (zus _) _
   have HBA := zur HBX hbA
   have HRA := zuq (GRow.below HROW.out hbA)
   have hx4 : zbe (wr.alloc (.cells #[.string ⟨x.lo.toArray⟩, .int .i64 x.lk, .string ⟨x.hi.toArray⟩, .int .i64 x.hk] 120)) wr.heap.size 0 x := by
    exact zyv
   have HX4 := zuq hx4
   have hszA : wr.heap.size < (wr.alloc (.cells #[.string ⟨x.lo.toArray⟩, .int .i64 x.lk, .string ⟨x.hi.toArray⟩, .int .i64 x.hk] 120)).heap.size := by simp
   clear hbA hx4 HROW
   have hfst : wr.heap.size < (wr.alloc (.cells #[.string ⟨x.lo.toArray⟩, .int .i64 x.lk, .string ⟨x.hi.toArray⟩, .int .i64 x.hk] 120)).heap.size := hszA
   have hNA : w.heap.size ≤ (wr.alloc (.cells #[.string ⟨x.lo.toArray⟩, .int .i64 x.lk, .string ⟨x.hi.toArray⟩, .int .i64 x.hk] 120)).heap.size := by omega
   obtain ⟨d0, d1, d2, d3⟩ := HX4.out
   rw [Nat.zero_add] at d1 d2 d3
   clear HX4 hszA
   rcases hlk : (x.lk == 0) with _ | _
   ·rcases hhk : (x.hk != 0) with _ | _
    ·have HST1 : Hid ((l.take (k + 1)).flatMap V.yl = (B ++ [(x.low, true)]) ++ (if x.hk = 0 then [] else [(x.high, false)])) := zuq (by rw [HST.out, HBI.out, if_neg (show ¬ x.lk = 0 by simpa using hlk), List.append_assoc])
     have HFV : Hid (Value.bool F = Value.bool (V.zo (l.take (k + 1)))) := zuq (by rw [HFT.out, decide_eq_false (show ¬ x.lk = 0 by simpa using hlk), Bool.or_false])
     go_wp2_with fail
     generalize wr.alloc (.cells #[.string ⟨x.lo.toArray⟩, .int .i64 x.lk, .string ⟨x.hi.toArray⟩, .int .i64 x.hk] 120) = W1 at *
     refine (zaz x W1).mono ?_
     rintro e W2 ⟨rfl, hb2⟩
     have k0 := za hb2 d0
     have k1 := za hb2 d1
     have k2 := za hb2 d2
     have k3 := za hb2 d3
     have hbC : Below W2.heap.size W2 (W2.alloc (.cells #[.string ⟨x.low.1.toArray⟩, .bool x.low.2, .bool true] 244)) := (zut _ W2).alloc (zus _) _
     have HR2 := zuq (GRow.below (GRow.below HRA.out hb2) hbC)
     have HB2 := zur HBA hb2
     have HB3 := zur HB2 hbC
     have hN2 : w.heap.size ≤ W2.heap.size := Nat.le_trans hNA hb2.size
     have e0 := za hbC k0
     have e1 := za hbC k1
     have e2 := za hbC k2
     have e3 := za hbC k3
     have HNW : Hid (∀ j u, (jz (x.low, true))[j]? = some u -> (W2.alloc (.cells #[.string ⟨x.low.1.toArray⟩, .bool x.low.2, .bool true] 244)).cell? ⟨W2.heap.size, j, none⟩ = some u) := zuq (fun j u hu => by rw [World.cell?_alloc_new]; simpa [jz] using hu)
     clear hb2 hbC d0 d1 d2 d3 k0 k1 k2 k3 HRA HBA
     unfold cutV
     go_wp2_with (first | (refine zp jf (by decide) jo km (by decide) rfl _ _ 240 rfl Tryz.underlying240 w.heap.size (.slice oa B.length oc) B rfl HR2.out W2.heap.size (x.low, true) rfl HNW.out (by omega) (by simp; omega) ?_; intro v3 W3 hr3 hg3; have m0 := xy hg3 HLT.out e0; have m1 := xy hg3 HLT.out e1; have m2 := xy hg3 HLT.out e2; have m3 := xy hg3 HLT.out e3) | fail)
     have HB5 : Hid (Below w.heap.size w W3) := zuq (HB3.out.trans (zl hg3 HBK.out (zus _) (by simp; omega)))
     have HR5 : Hid (BRow W3 w.heap.size v3 (B ++ [(x.low, true)])) := zuq hr3
     have hN5 : w.heap.size ≤ W3.heap.size := HB5.out.size
     have HBK5 : Hid (∀ b, v3.ownBlock = some b -> w.heap.size ≤ b) := zuq (GRow.block hr3)
     have hlen5 : (B ++ [(x.low, true)]).length ≤ 2 * l.length + 1 := by simp; omega
     generalize B ++ [(x.low, true)] = B5 at *
     clear hr3 hg3 e0 e1 e2 e3 HNW
     have HR7 : Hid (BRow W3 w.heap.size v3 ((l.take (k + 1)).flatMap V.yl)) := zuq (by rw [HST1.out, if_pos (show x.hk = 0 by simpa using hhk), List.append_nil]; exact HR5.out)
     exact zx3
    ·have HST1 : Hid ((l.take (k + 1)).flatMap V.yl = (B ++ [(x.low, true)]) ++ (if x.hk = 0 then [] else [(x.high, false)])) := zuq (by rw [HST.out, HBI.out, if_neg (show ¬ x.lk = 0 by simpa using hlk), List.append_assoc])
     have HFV : Hid (Value.bool F = Value.bool (V.zo (l.take (k + 1)))) := zuq (by rw [HFT.out, decide_eq_false (show ¬ x.lk = 0 by simpa using hlk), Bool.or_false])
     go_wp2_with fail
     generalize wr.alloc (.cells #[.string ⟨x.lo.toArray⟩, .int .i64 x.lk, .string ⟨x.hi.toArray⟩, .int .i64 x.hk] 120) = W1 at *
     refine (zaz x W1).mono ?_
     rintro e W2 ⟨rfl, hb2⟩
     have k0 := za hb2 d0
     have k1 := za hb2 d1
     have k2 := za hb2 d2
     have k3 := za hb2 d3
     have hbC : Below W2.heap.size W2 (W2.alloc (.cells #[.string ⟨x.low.1.toArray⟩, .bool x.low.2, .bool true] 244)) := (zut _ W2).alloc (zus _) _
     have HR2 := zuq (GRow.below (GRow.below HRA.out hb2) hbC)
     have HB2 := zur HBA hb2
     have HB3 := zur HB2 hbC
     have hN2 : w.heap.size ≤ W2.heap.size := Nat.le_trans hNA hb2.size
     have e0 := za hbC k0
     have e1 := za hbC k1
     have e2 := za hbC k2
     have e3 := za hbC k3
     have HNW : Hid (∀ j u, (jz (x.low, true))[j]? = some u -> (W2.alloc (.cells #[.string ⟨x.low.1.toArray⟩, .bool x.low.2, .bool true] 244)).cell? ⟨W2.heap.size, j, none⟩ = some u) := zuq (fun j u hu => by rw [World.cell?_alloc_new]; simpa [jz] using hu)
     clear hb2 hbC d0 d1 d2 d3 k0 k1 k2 k3 HRA HBA
     unfold cutV
     go_wp2_with (first | (refine zp jf (by decide) jo km (by decide) rfl _ _ 240 rfl Tryz.underlying240 w.heap.size (.slice oa B.length oc) B rfl HR2.out W2.heap.size (x.low, true) rfl HNW.out (by omega) (by simp; omega) ?_; intro v3 W3 hr3 hg3; have m0 := xy hg3 HLT.out e0; have m1 := xy hg3 HLT.out e1; have m2 := xy hg3 HLT.out e2; have m3 := xy hg3 HLT.out e3) | fail)
     have HB5 : Hid (Below w.heap.size w W3) := zuq (HB3.out.trans (zl hg3 HBK.out (zus _) (by simp; omega)))
     have HR5 : Hid (BRow W3 w.heap.size v3 (B ++ [(x.low, true)])) := zuq hr3
     have hN5 : w.heap.size ≤ W3.heap.size := HB5.out.size
     have HBK5 : Hid (∀ b, v3.ownBlock = some b -> w.heap.size ≤ b) := zuq (GRow.block hr3)
     have hlen5 : (B ++ [(x.low, true)]).length ≤ 2 * l.length + 1 := by simp; omega
     generalize B ++ [(x.low, true)] = B5 at *
     clear hr3 hg3 e0 e1 e2 e3 HNW
     refine (yz x W3).mono ?_
     rintro e W4 ⟨rfl, hb4⟩
     have hbC : Below W4.heap.size W4 (W4.alloc (.cells #[.string ⟨x.high.1.toArray⟩, .bool x.high.2, .bool false] 244)) := (zut _ W4).alloc (zus _) _
     have HR6 := zuq (GRow.below (GRow.below HR5.out hb4) hbC)
     have HB4 := zur HB5 hb4
     have HB6 := zur HB4 hbC
     have hN4 : w.heap.size ≤ W4.heap.size := HB4.out.size
     have HNW : Hid (∀ j u, (jz (x.high, false))[j]? = some u -> (W4.alloc (.cells #[.string ⟨x.high.1.toArray⟩, .bool x.high.2, .bool false] 244)).cell? ⟨W4.heap.size, j, none⟩ = some u) := zuq (fun j u hu => by rw [World.cell?_alloc_new]; simpa [jz] using hu)
     clear hb4 hbC
     unfold cutV
     go_wp2_with (first | (refine zp jf (by decide) jo km (by decide) rfl _ _ 240 rfl Tryz.underlying240 w.heap.size v3 B5 rfl HR6.out W4.heap.size (x.high, false) rfl HNW.out (by omega) (by simp; omega) ?_; intro v6 W6 hr6 hg6) | fail)
     exact zvo
   ·rcases hhk : (x.hk != 0) with _ | _
    ·have HST1 : Hid ((l.take (k + 1)).flatMap V.yl = B ++ (if x.hk = 0 then [] else [(x.high, false)])) := zuq (by rw [HST.out, HBI.out, if_pos (eq_of_beq hlk), List.nil_append])
     have HFV : Hid (Value.bool true = Value.bool (V.zo (l.take (k + 1)))) := zuq (by rw [HFT.out, decide_eq_true (eq_of_beq hlk), Bool.or_true])
     go_wp2_with fail
     generalize wr.alloc (.cells #[.string ⟨x.lo.toArray⟩, .int .i64 x.lk, .string ⟨x.hi.toArray⟩, .int .i64 x.hk] 120) = W3 at *
     have HB5 := HBA
     have HR5 : Hid (BRow W3 w.heap.size (.slice oa B.length oc) B) := HRA
     have hN5 : w.heap.size ≤ W3.heap.size := HB5.out.size
     have HBK5 := HBK
     have hlen5 : B.length ≤ 2 * l.length + 1 := by omega
     have HR7 : Hid (BRow W3 w.heap.size (.slice oa B.length oc) ((l.take (k + 1)).flatMap V.yl)) := zuq (by rw [HST1.out, if_pos (show x.hk = 0 by simpa using hhk), List.append_nil]; exact HR5.out)
     exact zx3
    ·have HST1 : Hid ((l.take (k + 1)).flatMap V.yl = B ++ (if x.hk = 0 then [] else [(x.high, false)])) := zuq (by rw [HST.out, HBI.out, if_pos (eq_of_beq hlk), List.nil_append])
     have HFV : Hid (Value.bool true = Value.bool (V.zo (l.take (k + 1)))) := zuq (by rw [HFT.out, decide_eq_true (eq_of_beq hlk), Bool.or_true])
     go_wp2_with fail
     generalize wr.alloc (.cells #[.string ⟨x.lo.toArray⟩, .int .i64 x.lk, .string ⟨x.hi.toArray⟩, .int .i64 x.hk] 120) = W3 at *
     have HB5 := HBA
     have HR5 : Hid (BRow W3 w.heap.size (.slice oa B.length oc) B) := HRA
     have hN5 : w.heap.size ≤ W3.heap.size := HB5.out.size
     have HBK5 := HBK
     have hlen5 : B.length ≤ 2 * l.length + 1 := by omega
     refine (yz x W3).mono ?_
     rintro e W4 ⟨rfl, hb4⟩
     have hbC : Below W4.heap.size W4 (W4.alloc (.cells #[.string ⟨x.high.1.toArray⟩, .bool x.high.2, .bool false] 244)) := (zut _ W4).alloc (zus _) _
     have HR6 := zuq (GRow.below (GRow.below HR5.out hb4) hbC)
     have HB4 := zur HB5 hb4
     have HB6 := zur HB4 hbC
     have hN4 : w.heap.size ≤ W4.heap.size := HB4.out.size
     have HNW : Hid (∀ j u, (jz (x.high, false))[j]? = some u -> (W4.alloc (.cells #[.string ⟨x.high.1.toArray⟩, .bool x.high.2, .bool false] 244)).cell? ⟨W4.heap.size, j, none⟩ = some u) := zuq (fun j u hu => by rw [World.cell?_alloc_new]; simpa [jz] using hu)
     clear hb4 hbC
     unfold cutV
     go_wp2_with (first | (refine zp jf (by decide) jo km (by decide) rfl _ _ 240 rfl Tryz.underlying240 w.heap.size (.slice oa B.length oc) B rfl HR6.out W4.heap.size (x.high, false) rfl HNW.out (by omega) (by simp; omega) ?_; intro v6 W6 hr6 hg6) | fail)
     exact zvo
  ·obtain rfl : k = l.length := by omega
   have HT : Hid (l.take l.length = l) := zuq (List.take_length ..)
   rw [HT.out] at HROW ⊢
   go_wp2
   go_ret2
   exact ⟨_, rfl, HROW.out, HBX.out⟩
end Go.Proofs.YtnhfaincdabdkaaGreatDoor
