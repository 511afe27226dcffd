import Derived.Test.YtcfbkcapbbhmpaaGreatDoorC39x14
import Derived.Test.YtcfbkcapbbhmpaaGreatDoorC39x16
import Derived.Test.YtcfbkcapbbhmpaaGreatDoorC39x10
import Derived.Deep.RegionHeld3
set_option linter.all false
set_option maxRecDepth 100000
set_option maxHeartbeats 6400000
namespace Go.Proofs.YtcfbkcapbbhmpaaGreatDoor
open Go.RowKit
namespace V
theorem zr5 (s p : Bs) : Lib.hasPrefix s p = decide (s.take p.length = p) := by
 unfold Lib.hasPrefix
 rw [Bool.eq_iff_iff, List.isPrefixOf_iff_prefix, List.prefix_iff_eq_take, decide_eq_true_eq]
 exact ⟨fun h => h.symm, fun h => h.symm⟩
def noOp (s : Bs) (k : Nat) : Prop := ∀ j, j < k -> Lib.hasPrefix s (opT j) = false
theorem zgm {s : Bs} {k : Nat} (hk : k < 5) (h : noOp s k) (hp : Lib.hasPrefix s (opT k) = true) : opOf s = some (k, s.drop (opT k).length) := by
 have g : ∀ j, Lib.hasPrefix s (opT j) = decide (s.take (opT j).length = opT j) := fun j => zr5 s (opT j)
 have h5 : k = 0 ∨ k = 1 ∨ k = 2 ∨ k = 3 ∨ k = 4 := by omega
 rcases h5 with rfl | rfl | rfl | rfl | rfl
 ·rw [g, decide_eq_true_eq] at hp; unfold opOf; rw [if_pos (show s.take 2 = [62, 61] from hp)]; rfl
 ·have a0 := h 0 (by omega); rw [g, decide_eq_false_iff_not] at a0
  rw [g, decide_eq_true_eq] at hp; unfold opOf; rw [if_neg (show ¬ s.take 2 = [62, 61] from a0), if_pos (show s.take 2 = [60, 61] from hp)]; rfl
 ·have a0 := h 0 (by omega); rw [g, decide_eq_false_iff_not] at a0
  have a1 := h 1 (by omega); rw [g, decide_eq_false_iff_not] at a1
  rw [g, decide_eq_true_eq] at hp; unfold opOf; rw [if_neg (show ¬ s.take 2 = [62, 61] from a0), if_neg (show ¬ s.take 2 = [60, 61] from a1), if_pos (show s.take 1 = [61] from hp)]; rfl
 ·have a0 := h 0 (by omega); rw [g, decide_eq_false_iff_not] at a0
  have a1 := h 1 (by omega); rw [g, decide_eq_false_iff_not] at a1
  have a2 := h 2 (by omega); rw [g, decide_eq_false_iff_not] at a2
  rw [g, decide_eq_true_eq] at hp; unfold opOf; rw [if_neg (show ¬ s.take 2 = [62, 61] from a0), if_neg (show ¬ s.take 2 = [60, 61] from a1), if_neg (show ¬ s.take 1 = [61] from a2), if_pos (show s.take 1 = [60] from hp)]; rfl
 ·have a0 := h 0 (by omega); rw [g, decide_eq_false_iff_not] at a0
  have a1 := h 1 (by omega); rw [g, decide_eq_false_iff_not] at a1
  have a2 := h 2 (by omega); rw [g, decide_eq_false_iff_not] at a2
  have a3 := h 3 (by omega); rw [g, decide_eq_false_iff_not] at a3
  rw [g, decide_eq_true_eq] at hp; unfold opOf; rw [if_neg (show ¬ s.take 2 = [62, 61] from a0), if_neg (show ¬ s.take 2 = [60, 61] from a1), if_neg (show ¬ s.take 1 = [61] from a2), if_neg (show ¬ s.take 1 = [60] from a3), if_pos (show s.take 1 = [62] from hp)]; rfl
theorem opOf_no {s : Bs} (h : noOp s 5) : opOf s = none := by
 have g : ∀ j, Lib.hasPrefix s (opT j) = decide (s.take (opT j).length = opT j) := fun j => zr5 s (opT j)
 have a0 := h 0 (by omega); rw [g, decide_eq_false_iff_not] at a0
 have a1 := h 1 (by omega); rw [g, decide_eq_false_iff_not] at a1
 have a2 := h 2 (by omega); rw [g, decide_eq_false_iff_not] at a2
 have a3 := h 3 (by omega); rw [g, decide_eq_false_iff_not] at a3
 have a4 := h 4 (by omega); rw [g, decide_eq_false_iff_not] at a4
 unfold opOf
 rw [if_neg (show ¬ s.take 2 = [62, 61] from a0), if_neg (show ¬ s.take 2 = [60, 61] from a1), if_neg (show ¬ s.take 1 = [61] from a2), if_neg (show ¬ s.take 1 = [60] from a3), if_neg (show ¬ s.take 1 = [62] from a4)]
theorem zc2 {s : Bs} {k : Nat} (h : noOp s k) (hp : Lib.hasPrefix s (opT k) = false) : noOp s (k + 1) := by
 intro j hj
 rcases Nat.lt_or_ge j k with g | g
 ·exact h j g
 ·obtain rfl : j = k := by omega
  exact hp
theorem zcq (n : Int) : valid n [] = false := rfl
end V
theorem xf (s p : V.Bs) (w : World) : Calls Tryz.prog 166 #[.string ⟨s.toArray⟩, .string ⟨p.toArray⟩] w fun e w' => e = .returned (.tuple #[.string ⟨(Lib.trimPrefix s p).toArray⟩, .bool (Lib.hasPrefix s p)]) /\ w' = w :=
 Tryz.strings_CutPrefix ⟨s.toArray⟩ ⟨p.toArray⟩ w
def zki (r : Option V.Itv) (w : World) (e : Ending) (w' : World) : Prop :=
 ∃ (y : V.Itv) (b : Bool), e = .returned (.tuple #[itvV y, .bool b]) /\ (b = false /\ r = none ∨ b = true /\ r = some y) /\ Below w.heap.size w w'
theorem zhc {s p : V.Bs} (h : Lib.hasPrefix s p = true) : Lib.trimPrefix s p = s.drop p.length := by
 unfold Lib.trimPrefix
 rw [if_pos h]
theorem zck {n : Int} {s u : V.Bs} {k : Nat} (h : V.opOf s = some (k, u)) : V.jr n s = if V.valid n u then some (V.ki k u) else none := by
 unfold V.jr
 rw [h]
theorem qk {r : Option V.Itv} {y : V.Itv} {b : Bool} {w w' : World} (h : r = if b then some y else none) (hb : Below w.heap.size w w') : zki r w (.returned (.tuple #[itvV y, .bool b])) w' := by
 refine ⟨y, b, rfl, ?_, hb⟩
 rw [h]
 cases b
 ·exact .inl ⟨rfl, rfl⟩
 ·exact .inr ⟨rfl, rfl⟩
theorem zea (s : V.Bs) (k : Nat) {m : Nat} (h : s.length ≤ m) : (s.drop k).length ≤ m := by rw [List.length_drop]; omega
theorem ku {w w' : World} {g : Nat} {cs : Array Value} {t : TypeId} (hb : Below w.heap.size w w') (h : w.heap[g]? = some (.cells cs t (0, 0))) : w'.heap[g]? = some (.cells cs t (0, 0)) :=
 (hb.block g (Array.getElem?_eq_some_iff.1 h).1).trans h
theorem zwm {P : Prop} (h : P := by
 rw [← hy] at HO2
 replace J1 : W2.heap[w.heap.size + 1]? = some (.cells #[.string ⟨yy.lo.toArray⟩, .int .i64 yy.lk, .string ⟨yy.hi.toArray⟩, .int .i64 yy.hk] 82 (0, 0)) := by rw [hy]; exact J1
 clear hy hp2
 have HMX := zwe (HM.out.below HB2.out)
 have x0 := zwd J1 0
 have x1 := zwd J1 1
 have x2 := zwd J1 2
 have x3 := zwd J1 3
 have y0 := zwd J0 0
 have y1 := zwd J0 1
 have y2 := zwd J0 2
 have y3 := zwd J0 3
 have f0 := Lib.frozen_of_heap J0 0
 have f1 := Lib.frozen_of_heap J0 1
 have f2 := Lib.frozen_of_heap J0 2
 have f3 := Lib.frozen_of_heap J0 3
 have HJ := zwe J0
 clear J0 J1 c0 c1 c2 c3 c4
 simp only [List.getElem?_toArray, List.getElem?_cons_zero, List.getElem?_cons_succ] at x0 x1 x2 x3 y0 y1 y2 y3
 go_region_held3 (fun W' => Below w.heap.size w W' /\ W'.cell? ⟨w.heap.size + 1, 0, none⟩ = some (.string ⟨yy.lo.toArray⟩) /\ W'.cell? ⟨w.heap.size + 1, 1, none⟩ = some (.int .i64 yy.lk) /\ W'.cell? ⟨w.heap.size + 1, 2, none⟩ = some (.string ⟨yy.hi.toArray⟩) /\ W'.cell? ⟨w.heap.size + 1, 3, none⟩ = some (.int .i64 yy.hk))
  (first
    | (go_split_ands; exact ⟨Below.trans (by assumption) (hbq.mono (Below.size (by assumption))), zwk hbq, zwk hbq, zwk hbq, zwk hbq⟩)
    | (exact ⟨HB2.out.drew, x0, x1, x2, x3⟩)
    | (go_split_ands; refine ⟨((((by assumption : Below w.heap.size w _).setCell (zwg _) _).setCell (zwg _) _).setCell (zwg _) _).setCell (zwg _) _, ?_, ?_, ?_, ?_⟩ <;> go_keep)
    | go_keep)
  (first | (go_at_call 95; refine (vl n ⟨u.toArray⟩ _ (HM.out.below (by first | assumption | exact And.left (by assumption))) HUL.out).mono ?_; rintro e wq ⟨rfl, hbq⟩; have q0 : wq.cell? ⟨w.heap.size, 0, none⟩ = some (.string ⟨#[]⟩) := (hbq.cell (p := ⟨w.heap.size, 0, none⟩) (World.block_lt_of_cell? _ _ y0)).trans y0; have p0 : wq.frozen? ⟨w.heap.size, 0, none⟩ = false := (hbq.frozen (p := ⟨w.heap.size, 0, none⟩) (World.block_lt_of_cell? _ _ y0)).trans f0; have q1 : wq.cell? ⟨w.heap.size, 1, none⟩ = some (.int .i64 0) := (hbq.cell (p := ⟨w.heap.size, 1, none⟩) (World.block_lt_of_cell? _ _ y1)).trans y1; have p1 : wq.frozen? ⟨w.heap.size, 1, none⟩ = false := (hbq.frozen (p := ⟨w.heap.size, 1, none⟩) (World.block_lt_of_cell? _ _ y1)).trans f1; have q2 : wq.cell? ⟨w.heap.size, 2, none⟩ = some (.string ⟨#[]⟩) := (hbq.cell (p := ⟨w.heap.size, 2, none⟩) (World.block_lt_of_cell? _ _ y2)).trans y2; have p2 : wq.frozen? ⟨w.heap.size, 2, none⟩ = false := (hbq.frozen (p := ⟨w.heap.size, 2, none⟩) (World.block_lt_of_cell? _ _ y2)).trans f2; have q3 : wq.cell? ⟨w.heap.size, 3, none⟩ = some (.int .i64 0) := (hbq.cell (p := ⟨w.heap.size, 3, none⟩) (World.block_lt_of_cell? _ _ y3)).trans y3; have p3 : wq.frozen? ⟨w.heap.size, 3, none⟩ = false := (hbq.frozen (p := ⟨w.heap.size, 3, none⟩) (World.block_lt_of_cell? _ _ y3)).trans f3))
 rename_i hS
 have HBZ := zwe (And.left hS)
 clear hS
 go_wp2
 exact bodyPost_ret (v := .tuple #[.agg #[.string ⟨yy.lo.toArray⟩, .int .i64 yy.lk, .string ⟨yy.hi.toArray⟩, .int .i64 yy.hk], .bool (V.valid n u)]) (by simp [results, Tryz.results138, go_sem, q0, q1, q2, q3]) rfl (qk (y := yy) HO2.out HBZ.out)) : P := h
theorem zje (n : Int) (s : V.Bs) (w : World) (hm : zg w) (hs : s.length ≤ 100000) :
  Calls Tryz.prog 138 #[.int .i64 n, .string ⟨s.toArray⟩] w (zki (V.jr n s) w) := by
 have HM := zwe hm
 have HS := zwe hs
 obtain ⟨W0, hW0⟩ : ∃ W0, W0 = ((w.alloc (.cells #[.string ⟨#[]⟩, .int .i64 0, .string ⟨#[]⟩, .int .i64 0] 82)).alloc (.cells #[.string ⟨#[]⟩, .int .i64 0, .string ⟨#[]⟩, .int .i64 0] 82)).alloc (.cells #[.string ⟨#[62, 61]⟩, .string ⟨#[60, 61]⟩, .string ⟨#[61]⟩, .string ⟨#[60]⟩, .string ⟨#[62]⟩] 9) := ⟨_, rfl⟩
 have hb0 : Below w.heap.size w W0 := by rw [hW0]; exact (((zwh _ w).alloc (zwg _) _).alloc (by simp) _).alloc (by simp; omega) _
 have K0 : W0.heap[w.heap.size]? = some (.cells #[.string ⟨#[]⟩, .int .i64 0, .string ⟨#[]⟩, .int .i64 0] 82 (0, 0)) := by
  rw [hW0, heap_alloc, if_neg (by simp; omega), heap_alloc, if_neg (by simp), heap_alloc, if_pos rfl]
 have K1 : W0.heap[w.heap.size + 1]? = some (.cells #[.string ⟨#[]⟩, .int .i64 0, .string ⟨#[]⟩, .int .i64 0] 82 (0, 0)) := by
  rw [hW0, heap_alloc, if_neg (by simp), heap_alloc, if_pos (by simp)]
 have c0 : W0.cell? ⟨w.heap.size + 1 + 1, 0, none⟩ = some (.string ⟨#[62, 61]⟩) := by rw [hW0, ze]; simp
 have c1 : W0.cell? ⟨w.heap.size + 1 + 1, 1, none⟩ = some (.string ⟨#[60, 61]⟩) := by rw [hW0, ze]; simp
 have c2 : W0.cell? ⟨w.heap.size + 1 + 1, 2, none⟩ = some (.string ⟨#[61]⟩) := by rw [hW0, ze]; simp
 have c3 : W0.cell? ⟨w.heap.size + 1 + 1, 3, none⟩ = some (.string ⟨#[60]⟩) := by rw [hW0, ze]; simp
 have c4 : W0.cell? ⟨w.heap.size + 1 + 1, 4, none⟩ = some (.string ⟨#[62]⟩) := by rw [hW0, ze]; simp
 have HW := zwe hW0
 have HB0 := zwe hb0
 have HK := zwe (And.intro K0 K1)
 have HC := zwe (And.intro c0 (And.intro c1 (And.intro c2 (And.intro c3 c4))))
 clear hm hs hW0 hb0 K0 K1 c0 c1 c2 c3 c4
 go_enter Tryz.func138, Tryz.ntmps138
 go_wp2_with fail
 rw [← HW.out]
 go_loopw [7, 14] (fun v iv wx => ∃ k : Nat, k ≤ 5 /\ v = .string ⟨#[]⟩ /\ iv = .int .i64 k /\ V.noOp s k /\ wx = W0) (fun _ iv _ => 5 - (intOf iv).toNat)
 case atStart => exact ⟨0, by omega, rfl, rfl, (fun j hj => by omega), rfl⟩
 case round =>
  obtain ⟨k, hk, rfl, rfl, hno, rfl⟩ := hrel
  have HNO := zwe hno
  obtain ⟨c0, c1, c2, c3, c4⟩ := HC.out
  clear hno
  have h5 : k = 0 ∨ k = 1 ∨ k = 2 ∨ k = 3 ∨ k = 4 ∨ k = 5 := by omega
  rcases h5 with rfl | rfl | rfl | rfl | rfl | rfl
  ·rcases hp : Lib.hasPrefix s (V.opT 0) with _ | _
   ·have HN : Hid (V.noOp s (0 + 1)) := zwe (V.zc2 HNO.out hp)
    have HP := zwe hp
    clear hp
    go_wp2_with fail
    refine (xf s (V.opT 0) _).mono ?_
    rintro e w' ⟨rfl, rfl⟩
    rw [HP.out]
    generalize Lib.trimPrefix s (V.opT 0) = u
    go_wp2_with fail
    go_roundw
    case rel => exact ⟨0 + 1, by omega, by first | trivial | rfl, by first | trivial | go_num, HN.out, by first | trivial | rfl⟩
    case measure => simp [intOf]
   ·have HO := zwe (V.zgm (by omega) HNO.out hp)
    have HP := zwe hp
    have HTR := zwe (zhc hp)
    clear hp
    go_wp2_with fail
    refine (xf s (V.opT 0) _).mono ?_
    rintro e w' ⟨rfl, rfl⟩
    rw [HP.out, HTR.out]
    have HUL : Hid ((ByteArray.mk (s.drop (V.opT 0).length).toArray).size ≤ maxLen) := zwe (by have := zea s (V.opT 0).length HS.out; show (s.drop (V.opT 0).length).toArray.size ≤ _; unfold maxLen; simp only [List.size_toArray]; omega)
    have HO2 := zwe (zck (n := n) HO.out)
    generalize s.drop (V.opT 0).length = u at *
    go_wp2_with (first | (refine zi rfl 82 _ _ rfl (w.heap.size + 1) #[.string ⟨#[]⟩, .int .i64 0, .string ⟨#[]⟩, .int .i64 0] _ HK.out.2 rfl #[.string ⟨u.toArray⟩, .int .i64 1, .string ⟨#[]⟩, .int .i64 0] rfl rfl kj (by simp [Value.oneCell']) ?_; intro W2 hp2) | fail)
    have J1 := hp2.here
    have J0 := hp2.other HK.out.1 (by omega)
    have HB2 := zwe (hp2.below HB0.out (by omega))
    obtain ⟨yy, hy⟩ : ∃ yy, yy = V.ki 0 u := ⟨_, rfl⟩
    exact zwm
  ·rcases hp : Lib.hasPrefix s (V.opT 1) with _ | _
   ·have HN : Hid (V.noOp s (1 + 1)) := zwe (V.zc2 HNO.out hp)
    have HP := zwe hp
    clear hp
    go_wp2_with fail
    refine (xf s (V.opT 1) _).mono ?_
    rintro e w' ⟨rfl, rfl⟩
    rw [HP.out]
    generalize Lib.trimPrefix s (V.opT 1) = u
    go_wp2_with fail
    go_roundw
    case rel => exact ⟨1 + 1, by omega, by first | trivial | rfl, by first | trivial | go_num, HN.out, by first | trivial | rfl⟩
    case measure => simp [intOf]
   ·have HO := zwe (V.zgm (by omega) HNO.out hp)
    have HP := zwe hp
    have HTR := zwe (zhc hp)
    clear hp
    go_wp2_with fail
    refine (xf s (V.opT 1) _).mono ?_
    rintro e w' ⟨rfl, rfl⟩
    rw [HP.out, HTR.out]
    have HUL : Hid ((ByteArray.mk (s.drop (V.opT 1).length).toArray).size ≤ maxLen) := zwe (by have := zea s (V.opT 1).length HS.out; show (s.drop (V.opT 1).length).toArray.size ≤ _; unfold maxLen; simp only [List.size_toArray]; omega)
    have HO2 := zwe (zck (n := n) HO.out)
    generalize s.drop (V.opT 1).length = u at *
    go_wp2_with (first | (refine zi rfl 82 _ _ rfl (w.heap.size + 1) #[.string ⟨#[]⟩, .int .i64 0, .string ⟨#[]⟩, .int .i64 0] _ HK.out.2 rfl #[.string ⟨#[]⟩, .int .i64 0, .string ⟨u.toArray⟩, .int .i64 1] rfl rfl kj (by simp [Value.oneCell']) ?_; intro W2 hp2) | fail)
    have J1 := hp2.here
    have J0 := hp2.other HK.out.1 (by omega)
    have HB2 := zwe (hp2.below HB0.out (by omega))
    obtain ⟨yy, hy⟩ : ∃ yy, yy = V.ki 1 u := ⟨_, rfl⟩
    exact zwm
  ·rcases hp : Lib.hasPrefix s (V.opT 2) with _ | _
   ·have HN : Hid (V.noOp s (2 + 1)) := zwe (V.zc2 HNO.out hp)
    have HP := zwe hp
    clear hp
    go_wp2_with fail
    refine (xf s (V.opT 2) _).mono ?_
    rintro e w' ⟨rfl, rfl⟩
    rw [HP.out]
    generalize Lib.trimPrefix s (V.opT 2) = u
    go_wp2_with fail
    go_roundw
    case rel => exact ⟨2 + 1, by omega, by first | trivial | rfl, by first | trivial | go_num, HN.out, by first | trivial | rfl⟩
    case measure => simp [intOf]
   ·have HO := zwe (V.zgm (by omega) HNO.out hp)
    have HP := zwe hp
    have HTR := zwe (zhc hp)
    clear hp
    go_wp2_with fail
    refine (xf s (V.opT 2) _).mono ?_
    rintro e w' ⟨rfl, rfl⟩
    rw [HP.out, HTR.out]
    have HUL : Hid ((ByteArray.mk (s.drop (V.opT 2).length).toArray).size ≤ maxLen) := zwe (by have := zea s (V.opT 2).length HS.out; show (s.drop (V.opT 2).length).toArray.size ≤ _; unfold maxLen; simp only [List.size_toArray]; omega)
    have HO2 := zwe (zck (n := n) HO.out)
    generalize s.drop (V.opT 2).length = u at *
    go_wp2_with (first | (refine zi rfl 82 _ _ rfl (w.heap.size + 1) #[.string ⟨#[]⟩, .int .i64 0, .string ⟨#[]⟩, .int .i64 0] _ HK.out.2 rfl #[.string ⟨u.toArray⟩, .int .i64 1, .string ⟨u.toArray⟩, .int .i64 1] rfl rfl kj (by simp [Value.oneCell']) ?_; intro W2 hp2) | fail)
    have J1 := hp2.here
    have J0 := hp2.other HK.out.1 (by omega)
    have HB2 := zwe (hp2.below HB0.out (by omega))
    obtain ⟨yy, hy⟩ : ∃ yy, yy = V.ki 2 u := ⟨_, rfl⟩
    exact zwm
  ·rcases hp : Lib.hasPrefix s (V.opT 3) with _ | _
   ·have HN : Hid (V.noOp s (3 + 1)) := zwe (V.zc2 HNO.out hp)
    have HP := zwe hp
    clear hp
    go_wp2_with fail
    refine (xf s (V.opT 3) _).mono ?_
    rintro e w' ⟨rfl, rfl⟩
    rw [HP.out]
    generalize Lib.trimPrefix s (V.opT 3) = u
    go_wp2_with fail
    go_roundw
    case rel => exact ⟨3 + 1, by omega, by first | trivial | rfl, by first | trivial | go_num, HN.out, by first | trivial | rfl⟩
    case measure => simp [intOf]
   ·have HO := zwe (V.zgm (by omega) HNO.out hp)
    have HP := zwe hp
    have HTR := zwe (zhc hp)
    clear hp
    go_wp2_with fail
    refine (xf s (V.opT 3) _).mono ?_
    rintro e w' ⟨rfl, rfl⟩
    rw [HP.out, HTR.out]
    have HUL : Hid ((ByteArray.mk (s.drop (V.opT 3).length).toArray).size ≤ maxLen) := zwe (by have := zea s (V.opT 3).length HS.out; show (s.drop (V.opT 3).length).toArray.size ≤ _; unfold maxLen; simp only [List.size_toArray]; omega)
    have HO2 := zwe (zck (n := n) HO.out)
    generalize s.drop (V.opT 3).length = u at *
    go_wp2_with (first | (refine zi rfl 82 _ _ rfl (w.heap.size + 1) #[.string ⟨#[]⟩, .int .i64 0, .string ⟨#[]⟩, .int .i64 0] _ HK.out.2 rfl #[.string ⟨#[]⟩, .int .i64 0, .string ⟨u.toArray⟩, .int .i64 2] rfl rfl kj (by simp [Value.oneCell']) ?_; intro W2 hp2) | fail)
    have J1 := hp2.here
    have J0 := hp2.other HK.out.1 (by omega)
    have HB2 := zwe (hp2.below HB0.out (by omega))
    obtain ⟨yy, hy⟩ : ∃ yy, yy = V.ki 3 u := ⟨_, rfl⟩
    exact zwm
  ·rcases hp : Lib.hasPrefix s (V.opT 4) with _ | _
   ·have HN : Hid (V.noOp s (4 + 1)) := zwe (V.zc2 HNO.out hp)
    have HP := zwe hp
    clear hp
    go_wp2_with fail
    refine (xf s (V.opT 4) _).mono ?_
    rintro e w' ⟨rfl, rfl⟩
    rw [HP.out]
    generalize Lib.trimPrefix s (V.opT 4) = u
    go_wp2_with fail
    go_roundw
    case rel => exact ⟨4 + 1, by omega, by first | trivial | rfl, by first | trivial | go_num, HN.out, by first | trivial | rfl⟩
    case measure => simp [intOf]
   ·have HO := zwe (V.zgm (by omega) HNO.out hp)
    have HP := zwe hp
    have HTR := zwe (zhc hp)
    clear hp
    go_wp2_with fail
    refine (xf s (V.opT 4) _).mono ?_
    rintro e w' ⟨rfl, rfl⟩
    rw [HP.out, HTR.out]
    have HUL : Hid ((ByteArray.mk (s.drop (V.opT 4).length).toArray).size ≤ maxLen) := zwe (by have := zea s (V.opT 4).length HS.out; show (s.drop (V.opT 4).length).toArray.size ≤ _; unfold maxLen; simp only [List.size_toArray]; omega)
    have HO2 := zwe (zck (n := n) HO.out)
    generalize s.drop (V.opT 4).length = u at *
    go_wp2_with (first | (refine zi rfl 82 _ _ rfl (w.heap.size + 1) #[.string ⟨#[]⟩, .int .i64 0, .string ⟨#[]⟩, .int .i64 0] _ HK.out.2 rfl #[.string ⟨u.toArray⟩, .int .i64 2, .string ⟨#[]⟩, .int .i64 0] rfl rfl kj (by simp [Value.oneCell']) ?_; intro W2 hp2) | fail)
    have J1 := hp2.here
    have J0 := hp2.other HK.out.1 (by omega)
    have HB2 := zwe (hp2.below HB0.out (by omega))
    obtain ⟨yy, hy⟩ : ∃ yy, yy = V.ki 4 u := ⟨_, rfl⟩
    exact zwm
  ·have HO := zwe (V.opOf_no HNO.out)
   have HO2 : Hid (V.jr n s = if V.valid n [] then some V.noI else none) := zwe (by unfold V.jr; rw [HO.out, V.zcq]; rfl)
   have HUL : Hid ((ByteArray.mk #[]).size ≤ maxLen) := zwe (by show 0 ≤ _; exact Nat.zero_le _)
   have HB2 := zwe HB0.out
   obtain ⟨J0, J1⟩ := HK.out
   have x0 := zwd J1 0
   have x1 := zwd J1 1
   have x2 := zwd J1 2
   have x3 := zwd J1 3
   have y0 := zwd J0 0
   have y1 := zwd J0 1
   have y2 := zwd J0 2
   have y3 := zwd J0 3
   have f0 := Lib.frozen_of_heap J0 0
   have f1 := Lib.frozen_of_heap J0 1
   have f2 := Lib.frozen_of_heap J0 2
   have f3 := Lib.frozen_of_heap J0 3
   clear J0 J1 c0 c1 c2 c3 c4
   simp only [List.getElem?_toArray, List.getElem?_cons_zero, List.getElem?_cons_succ] at x0 x1 x2 x3 y0 y1 y2 y3
   go_wp2_with fail
   go_region_held3 (fun W' => Below w.heap.size w W' /\ W'.cell? ⟨w.heap.size + 1, 0, none⟩ = some (.string ⟨#[]⟩) /\ W'.cell? ⟨w.heap.size + 1, 1, none⟩ = some (.int .i64 0) /\ W'.cell? ⟨w.heap.size + 1, 2, none⟩ = some (.string ⟨#[]⟩) /\ W'.cell? ⟨w.heap.size + 1, 3, none⟩ = some (.int .i64 0))
    (first
      | (go_split_ands; exact ⟨Below.trans (by assumption) (hbq.mono (Below.size (by assumption))), zwk hbq, zwk hbq, zwk hbq, zwk hbq⟩)
      | (exact ⟨HB2.out.drew, x0, x1, x2, x3⟩)
      | (go_split_ands; refine ⟨((((by assumption : Below w.heap.size w _).setCell (zwg _) _).setCell (zwg _) _).setCell (zwg _) _).setCell (zwg _) _, ?_, ?_, ?_, ?_⟩ <;> go_keep)
      | go_keep)
    (first | (go_at_call 95; refine (vl n ⟨#[]⟩ _ (HM.out.below (by first | assumption | exact And.left (by assumption))) HUL.out).mono ?_; rintro e wq ⟨rfl, hbq⟩; have q0 : wq.cell? ⟨w.heap.size, 0, none⟩ = some (.string ⟨#[]⟩) := (hbq.cell (p := ⟨w.heap.size, 0, none⟩) (World.block_lt_of_cell? _ _ y0)).trans y0; have p0 : wq.frozen? ⟨w.heap.size, 0, none⟩ = false := (hbq.frozen (p := ⟨w.heap.size, 0, none⟩) (World.block_lt_of_cell? _ _ y0)).trans f0; have q1 : wq.cell? ⟨w.heap.size, 1, none⟩ = some (.int .i64 0) := (hbq.cell (p := ⟨w.heap.size, 1, none⟩) (World.block_lt_of_cell? _ _ y1)).trans y1; have p1 : wq.frozen? ⟨w.heap.size, 1, none⟩ = false := (hbq.frozen (p := ⟨w.heap.size, 1, none⟩) (World.block_lt_of_cell? _ _ y1)).trans f1; have q2 : wq.cell? ⟨w.heap.size, 2, none⟩ = some (.string ⟨#[]⟩) := (hbq.cell (p := ⟨w.heap.size, 2, none⟩) (World.block_lt_of_cell? _ _ y2)).trans y2; have p2 : wq.frozen? ⟨w.heap.size, 2, none⟩ = false := (hbq.frozen (p := ⟨w.heap.size, 2, none⟩) (World.block_lt_of_cell? _ _ y2)).trans f2; have q3 : wq.cell? ⟨w.heap.size, 3, none⟩ = some (.int .i64 0) := (hbq.cell (p := ⟨w.heap.size, 3, none⟩) (World.block_lt_of_cell? _ _ y3)).trans y3; have p3 : wq.frozen? ⟨w.heap.size, 3, none⟩ = false := (hbq.frozen (p := ⟨w.heap.size, 3, none⟩) (World.block_lt_of_cell? _ _ y3)).trans f3))
   rename_i hS
   have HBZ := zwe (And.left hS)
   clear hS
   go_wp2
   exact bodyPost_ret (v := .tuple #[.agg #[.string ⟨#[]⟩, .int .i64 0, .string ⟨#[]⟩, .int .i64 0], .bool (V.valid n [])]) (by simp [results, Tryz.results138, go_sem, q0, q1, q2, q3]) rfl (qk (y := V.noI) HO2.out HBZ.out)
end Go.Proofs.YtcfbkcapbbhmpaaGreatDoor
