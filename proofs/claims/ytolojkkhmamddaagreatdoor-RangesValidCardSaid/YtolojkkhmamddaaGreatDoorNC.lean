/-
  Walk: condition of package ranges. (Printed by gen_NA.py.)
  Walk: alternative of package ranges.
-/
import Derived.Test.YtolojkkhmamddaaGreatDoorMX
import Derived.Test.YtolojkkhmamddaaGreatDoorMF
import Derived.Test.YtolojkkhmamddaaGreatDoorCO
import Derived.Test.YtolojkkhmamddaaGreatDoorMH
import Derived.Deep.RegionHeld3
import Derived.Outline
namespace Go.Proofs.YtolojkkhmamddaaGreatDoor
open Go.RowKit

namespace V
theorem pre_take (s p : Bs) : Lib.hasPrefix s p = decide (s.take p.length = p) := by
  unfold Lib.hasPrefix
  rw [Bool.eq_iff_iff, List.isPrefixOf_iff_prefix, List.prefix_iff_eq_take, decide_eq_true_eq]
  exact ⟨fun h => h.symm, fun h => h.symm⟩
/-- no condition up to the k-th begins s -/
def noOp (s : Bs) (k : Nat) : Prop := ∀ j, j < k → Lib.hasPrefix s (opT j) = false
theorem opOf_at {s : Bs} {k : Nat} (hk : k < 5) (h : noOp s k) (hp : Lib.hasPrefix s (opT k) = true) : opOf s = some (k, s.drop (opT k).length) := by
  have g : ∀ j, Lib.hasPrefix s (opT j) = decide (s.take (opT j).length = opT j) := fun j => pre_take s (opT j)
  have h5 : k = 0 ∨ k = 1 ∨ k = 2 ∨ k = 3 ∨ k = 4 := by omega
  rcases h5 with rfl | rfl | rfl | rfl | rfl
  · rw [g, decide_eq_true_eq] at hp; unfold opOf; rw [if_pos (show s.take 2 = [62, 61] from hp)]; rfl
  · have a0 := h 0 (by omega); rw [g, decide_eq_false_iff_not] at a0
    rw [g, decide_eq_true_eq] at hp; unfold opOf; rw [if_neg (show ¬ s.take 2 = [62, 61] from a0), if_pos (show s.take 2 = [60, 61] from hp)]; rfl
  · have a0 := h 0 (by omega); rw [g, decide_eq_false_iff_not] at a0
    have a1 := h 1 (by omega); rw [g, decide_eq_false_iff_not] at a1
    rw [g, decide_eq_true_eq] at hp; unfold opOf; rw [if_neg (show ¬ s.take 2 = [62, 61] from a0), if_neg (show ¬ s.take 2 = [60, 61] from a1), if_pos (show s.take 1 = [61] from hp)]; rfl
  · have a0 := h 0 (by omega); rw [g, decide_eq_false_iff_not] at a0
    have a1 := h 1 (by omega); rw [g, decide_eq_false_iff_not] at a1
    have a2 := h 2 (by omega); rw [g, decide_eq_false_iff_not] at a2
    rw [g, decide_eq_true_eq] at hp; unfold opOf; rw [if_neg (show ¬ s.take 2 = [62, 61] from a0), if_neg (show ¬ s.take 2 = [60, 61] from a1), if_neg (show ¬ s.take 1 = [61] from a2), if_pos (show s.take 1 = [60] from hp)]; rfl
  · have a0 := h 0 (by omega); rw [g, decide_eq_false_iff_not] at a0
    have a1 := h 1 (by omega); rw [g, decide_eq_false_iff_not] at a1
    have a2 := h 2 (by omega); rw [g, decide_eq_false_iff_not] at a2
    have a3 := h 3 (by omega); rw [g, decide_eq_false_iff_not] at a3
    rw [g, decide_eq_true_eq] at hp; unfold opOf; rw [if_neg (show ¬ s.take 2 = [62, 61] from a0), if_neg (show ¬ s.take 2 = [60, 61] from a1), if_neg (show ¬ s.take 1 = [61] from a2), if_neg (show ¬ s.take 1 = [60] from a3), if_pos (show s.take 1 = [62] from hp)]; rfl
theorem opOf_no {s : Bs} (h : noOp s 5) : opOf s = none := by
  have g : ∀ j, Lib.hasPrefix s (opT j) = decide (s.take (opT j).length = opT j) := fun j => pre_take s (opT j)
  have a0 := h 0 (by omega); rw [g, decide_eq_false_iff_not] at a0
  have a1 := h 1 (by omega); rw [g, decide_eq_false_iff_not] at a1
  have a2 := h 2 (by omega); rw [g, decide_eq_false_iff_not] at a2
  have a3 := h 3 (by omega); rw [g, decide_eq_false_iff_not] at a3
  have a4 := h 4 (by omega); rw [g, decide_eq_false_iff_not] at a4
  unfold opOf
  rw [if_neg (show ¬ s.take 2 = [62, 61] from a0), if_neg (show ¬ s.take 2 = [60, 61] from a1), if_neg (show ¬ s.take 1 = [61] from a2), if_neg (show ¬ s.take 1 = [60] from a3), if_neg (show ¬ s.take 1 = [62] from a4)]
theorem noOp_step {s : Bs} {k : Nat} (h : noOp s k) (hp : Lib.hasPrefix s (opT k) = false) : noOp s (k + 1) := by
  intro j hj
  rcases Nat.lt_or_ge j k with g | g
  · exact h j g
  · obtain rfl : j = k := by omega
    exact hp
theorem valid_nil (n : Int) : valid n [] = false := rfl
end V

theorem cutPre_any (s p : V.Bs) (w : World) : Calls Tryz.prog 110 #[.string ⟨s.toArray⟩, .string ⟨p.toArray⟩] w fun e w' => e = .returned (.tuple #[.string ⟨(Lib.trimPrefix s p).toArray⟩, .bool (Lib.hasPrefix s p)]) ∧ w' = w :=
  Tryz.strings_CutPrefix ⟨s.toArray⟩ ⟨p.toArray⟩ w
/-- the interval of a condition, or none -/
def CondPost (r : Option V.Itv) (w : World) (e : Ending) (w' : World) : Prop :=
  ∃ (y : V.Itv) (b : Bool), e = .returned (.tuple #[itvV y, .bool b]) ∧ (b = false ∧ r = none ∨ b = true ∧ r = some y) ∧ Below w.heap.size w w'
theorem trim_at {s p : V.Bs} (h : Lib.hasPrefix s p = true) : Lib.trimPrefix s p = s.drop p.length := by
  unfold Lib.trimPrefix
  rw [if_pos h]
/-- the end of a walk: what condP is -/
theorem cond_some {n : Int} {s u : V.Bs} {k : Nat} (h : V.opOf s = some (k, u)) : V.condP n s = if V.valid n u then some (V.condI k u) else none := by
  unfold V.condP
  rw [h]
theorem condPost_mk {r : Option V.Itv} {y : V.Itv} {b : Bool} {w w' : World} (h : r = if b then some y else none) (hb : Below w.heap.size w w') : CondPost r w (.returned (.tuple #[itvV y, .bool b])) w' := by
  refine ⟨y, b, rfl, ?_, hb⟩
  rw [h]
  cases b
  · exact .inl ⟨rfl, rfl⟩
  · exact .inr ⟨rfl, rfl⟩
theorem drop_len (s : V.Bs) (k : Nat) {m : Nat} (h : s.length ≤ m) : (s.drop k).length ≤ m := by rw [List.length_drop]; omega
theorem keep4 {w w' : World} {g : Nat} {cs : Array Value} {t : TypeId} (hb : Below w.heap.size w w') (h : w.heap[g]? = some (.cells cs t (0, 0))) : w'.heap[g]? = some (.cells cs t (0, 0)) :=
  (hb.block g (Array.getElem?_eq_some_iff.1 h).1).trans h

set_option maxRecDepth 100000 in
set_option maxHeartbeats 6400000 in
theorem rgCondition_any (n : Int) (s : V.Bs) (w : World) (hm : MaxOk w) (hs : s.length ≤ 100000) :
    Calls Tryz.prog 92 #[.int .i64 n, .string ⟨s.toArray⟩] w (CondPost (V.condP n s) w) := by
  have HM := Lib.hid hm
  have HS := Lib.hid hs
  obtain ⟨W0, hW0⟩ : ∃ W0, W0 = ((w.alloc (.cells #[.string ⟨#[]⟩, .int .i64 0, .string ⟨#[]⟩, .int .i64 0] 64)).alloc (.cells #[.string ⟨#[]⟩, .int .i64 0, .string ⟨#[]⟩, .int .i64 0] 64)).alloc (.cells #[.string ⟨#[62, 61]⟩, .string ⟨#[60, 61]⟩, .string ⟨#[61]⟩, .string ⟨#[60]⟩, .string ⟨#[62]⟩] 9) := ⟨_, rfl⟩
  have hb0 : Below w.heap.size w W0 := by rw [hW0]; exact (((Below.refl _ w).alloc (Nat.le_refl _) _).alloc (by simp) _).alloc (by simp; omega) _
  have K0 : W0.heap[w.heap.size]? = some (.cells #[.string ⟨#[]⟩, .int .i64 0, .string ⟨#[]⟩, .int .i64 0] 64 (0, 0)) := by
    rw [hW0, heap_alloc, if_neg (by simp; omega), heap_alloc, if_neg (by simp), heap_alloc, if_pos rfl]
  have K1 : W0.heap[w.heap.size + 1]? = some (.cells #[.string ⟨#[]⟩, .int .i64 0, .string ⟨#[]⟩, .int .i64 0] 64 (0, 0)) := by
    rw [hW0, heap_alloc, if_neg (by simp), heap_alloc, if_pos (by simp)]
  have c0 : W0.cell? ⟨w.heap.size + 1 + 1, 0, none⟩ = some (.string ⟨#[62, 61]⟩) := by rw [hW0, cell_alloc]; simp
  have c1 : W0.cell? ⟨w.heap.size + 1 + 1, 1, none⟩ = some (.string ⟨#[60, 61]⟩) := by rw [hW0, cell_alloc]; simp
  have c2 : W0.cell? ⟨w.heap.size + 1 + 1, 2, none⟩ = some (.string ⟨#[61]⟩) := by rw [hW0, cell_alloc]; simp
  have c3 : W0.cell? ⟨w.heap.size + 1 + 1, 3, none⟩ = some (.string ⟨#[60]⟩) := by rw [hW0, cell_alloc]; simp
  have c4 : W0.cell? ⟨w.heap.size + 1 + 1, 4, none⟩ = some (.string ⟨#[62]⟩) := by rw [hW0, cell_alloc]; simp
  have HW := Lib.hid hW0
  have HB0 := Lib.hid hb0
  have HK := Lib.hid (And.intro K0 K1)
  have HC := Lib.hid (And.intro c0 (And.intro c1 (And.intro c2 (And.intro c3 c4))))
  clear hm hs hW0 hb0 K0 K1 c0 c1 c2 c3 c4
  go_enter Tryz.func92, Tryz.ntmps92
  go_wp2_with fail
  rw [← HW.out]
  go_loopw [7, 14] (fun v iv wx => ∃ k : Nat, k ≤ 5 ∧ v = .string ⟨#[]⟩ ∧ iv = .int .i64 k ∧ V.noOp s k ∧ wx = W0) (fun _ iv _ => 5 - (intOf iv).toNat)
  case atStart => exact ⟨0, by omega, rfl, rfl, (fun j hj => by omega), rfl⟩
  case round =>
    obtain ⟨k, hk, rfl, rfl, hno, rfl⟩ := hrel
    have HNO := Lib.hid hno
    obtain ⟨c0, c1, c2, c3, c4⟩ := HC.out
    clear hno
    have h5 : k = 0 ∨ k = 1 ∨ k = 2 ∨ k = 3 ∨ k = 4 ∨ k = 5 := by omega
    rcases h5 with rfl | rfl | rfl | rfl | rfl | rfl
    · rcases hp : Lib.hasPrefix s (V.opT 0) with _ | _
      · have HN : Hid (V.noOp s (0 + 1)) := Lib.hid (V.noOp_step HNO.out hp)
        have HP := Lib.hid hp
        clear hp
        go_wp2_with fail
        refine (cutPre_any s (V.opT 0) _).mono ?_
        rintro e w' ⟨rfl, rfl⟩
        rw [HP.out]
        generalize Lib.trimPrefix s (V.opT 0) = u
        go_wp2_with fail
        go_roundw
        case rel => exact ⟨0 + 1, by omega, by first | trivial | rfl, by first | trivial | go_num, HN.out, by first | trivial | rfl⟩
        case measure => simp [intOf]
      · have HO := Lib.hid (V.opOf_at (by omega) HNO.out hp)
        have HP := Lib.hid hp
        have HTR := Lib.hid (trim_at hp)
        clear hp
        go_wp2_with fail
        refine (cutPre_any s (V.opT 0) _).mono ?_
        rintro e w' ⟨rfl, rfl⟩
        rw [HP.out, HTR.out]
        have HUL : Hid ((ByteArray.mk (s.drop (V.opT 0).length).toArray).size ≤ maxLen) := Lib.hid (by have := drop_len s (V.opT 0).length HS.out; show (s.drop (V.opT 0).length).toArray.size ≤ _; unfold maxLen; simp only [List.size_toArray]; omega)
        have HO2 := Lib.hid (cond_some (n := n) HO.out)
        generalize s.drop (V.opT 0).length = u at *
        go_wp2_with (first | (refine wl_putRow rfl 64 _ _ rfl (w.heap.size + 1) #[.string ⟨#[]⟩, .int .i64 0, .string ⟨#[]⟩, .int .i64 0] _ HK.out.2 rfl #[.string ⟨u.toArray⟩, .int .i64 1, .string ⟨#[]⟩, .int .i64 0] rfl rfl itvSize (by simp [Value.oneCell']) ?_; intro W2 hp2) | fail)
        have J1 := hp2.here
        have J0 := hp2.other HK.out.1 (by omega)
        have HB2 := Lib.hid (hp2.below HB0.out (by omega))
        have HMX := Lib.hid (HM.out.below HB2.out)
        have x0 := Lib.cell_of_heap J1 0
        have x1 := Lib.cell_of_heap J1 1
        have x2 := Lib.cell_of_heap J1 2
        have x3 := Lib.cell_of_heap J1 3
        have y0 := Lib.cell_of_heap J0 0
        have y1 := Lib.cell_of_heap J0 1
        have y2 := Lib.cell_of_heap J0 2
        have y3 := Lib.cell_of_heap J0 3
        have f0 := Lib.frozen_of_heap J0 0
        have f1 := Lib.frozen_of_heap J0 1
        have f2 := Lib.frozen_of_heap J0 2
        have f3 := Lib.frozen_of_heap J0 3
        have HJ := Lib.hid J0
        clear hp2 J0 J1 c0 c1 c2 c3 c4
        simp only [List.getElem?_toArray, List.getElem?_cons_zero, List.getElem?_cons_succ] at x0 x1 x2 x3 y0 y1 y2 y3
        go_region_held3 (fun W' => Below w.heap.size w W' ∧ W'.cell? ⟨w.heap.size + 1, 0, none⟩ = some (.string ⟨u.toArray⟩) ∧ W'.cell? ⟨w.heap.size + 1, 1, none⟩ = some (.int .i64 1) ∧ W'.cell? ⟨w.heap.size + 1, 2, none⟩ = some (.string ⟨#[]⟩) ∧ W'.cell? ⟨w.heap.size + 1, 3, none⟩ = some (.int .i64 0))
          (first
            | (go_split_ands; exact ⟨Below.trans (by assumption) (hbq.mono (Below.size (by assumption))), below_keep hbq (by assumption), below_keep hbq (by assumption), below_keep hbq (by assumption), below_keep hbq (by assumption)⟩)
            | (exact ⟨HB2.out.drew, x0, x1, x2, x3⟩)
            | (go_split_ands; refine ⟨((((by assumption : Below w.heap.size w _).setCell (Nat.le_refl _) _).setCell (Nat.le_refl _) _).setCell (Nat.le_refl _) _).setCell (Nat.le_refl _) _, ?_, ?_, ?_, ?_⟩ <;> go_keep)
            | go_keep)
          (first | (go_at_call 45; refine (valid_any n ⟨u.toArray⟩ _ (HM.out.below (by first | assumption | exact And.left (by assumption))) HUL.out).mono ?_; rintro e wq ⟨rfl, hbq⟩; have q0 : wq.cell? ⟨w.heap.size, 0, none⟩ = some (.string ⟨#[]⟩) := (hbq.cell (p := ⟨w.heap.size, 0, none⟩) (World.block_lt_of_cell? _ _ y0)).trans y0; have p0 : wq.frozen? ⟨w.heap.size, 0, none⟩ = false := (hbq.frozen (p := ⟨w.heap.size, 0, none⟩) (World.block_lt_of_cell? _ _ y0)).trans f0; have q1 : wq.cell? ⟨w.heap.size, 1, none⟩ = some (.int .i64 0) := (hbq.cell (p := ⟨w.heap.size, 1, none⟩) (World.block_lt_of_cell? _ _ y1)).trans y1; have p1 : wq.frozen? ⟨w.heap.size, 1, none⟩ = false := (hbq.frozen (p := ⟨w.heap.size, 1, none⟩) (World.block_lt_of_cell? _ _ y1)).trans f1; have q2 : wq.cell? ⟨w.heap.size, 2, none⟩ = some (.string ⟨#[]⟩) := (hbq.cell (p := ⟨w.heap.size, 2, none⟩) (World.block_lt_of_cell? _ _ y2)).trans y2; have p2 : wq.frozen? ⟨w.heap.size, 2, none⟩ = false := (hbq.frozen (p := ⟨w.heap.size, 2, none⟩) (World.block_lt_of_cell? _ _ y2)).trans f2; have q3 : wq.cell? ⟨w.heap.size, 3, none⟩ = some (.int .i64 0) := (hbq.cell (p := ⟨w.heap.size, 3, none⟩) (World.block_lt_of_cell? _ _ y3)).trans y3; have p3 : wq.frozen? ⟨w.heap.size, 3, none⟩ = false := (hbq.frozen (p := ⟨w.heap.size, 3, none⟩) (World.block_lt_of_cell? _ _ y3)).trans f3))
        rename_i hS
        have HBZ := Lib.hid (And.left hS)
        clear hS
        go_wp2
        exact bodyPost_ret (v := .tuple #[.agg #[.string ⟨u.toArray⟩, .int .i64 1, .string ⟨#[]⟩, .int .i64 0], .bool (V.valid n u)]) (by simp [results, Tryz.results92, go_sem, q0, q1, q2, q3]) rfl (condPost_mk (y := V.condI 0 u) HO2.out HBZ.out)
    · rcases hp : Lib.hasPrefix s (V.opT 1) with _ | _
      · have HN : Hid (V.noOp s (1 + 1)) := Lib.hid (V.noOp_step HNO.out hp)
        have HP := Lib.hid hp
        clear hp
        go_wp2_with fail
        refine (cutPre_any s (V.opT 1) _).mono ?_
        rintro e w' ⟨rfl, rfl⟩
        rw [HP.out]
        generalize Lib.trimPrefix s (V.opT 1) = u
        go_wp2_with fail
        go_roundw
        case rel => exact ⟨1 + 1, by omega, by first | trivial | rfl, by first | trivial | go_num, HN.out, by first | trivial | rfl⟩
        case measure => simp [intOf]
      · have HO := Lib.hid (V.opOf_at (by omega) HNO.out hp)
        have HP := Lib.hid hp
        have HTR := Lib.hid (trim_at hp)
        clear hp
        go_wp2_with fail
        refine (cutPre_any s (V.opT 1) _).mono ?_
        rintro e w' ⟨rfl, rfl⟩
        rw [HP.out, HTR.out]
        have HUL : Hid ((ByteArray.mk (s.drop (V.opT 1).length).toArray).size ≤ maxLen) := Lib.hid (by have := drop_len s (V.opT 1).length HS.out; show (s.drop (V.opT 1).length).toArray.size ≤ _; unfold maxLen; simp only [List.size_toArray]; omega)
        have HO2 := Lib.hid (cond_some (n := n) HO.out)
        generalize s.drop (V.opT 1).length = u at *
        go_wp2_with (first | (refine wl_putRow rfl 64 _ _ rfl (w.heap.size + 1) #[.string ⟨#[]⟩, .int .i64 0, .string ⟨#[]⟩, .int .i64 0] _ HK.out.2 rfl #[.string ⟨#[]⟩, .int .i64 0, .string ⟨u.toArray⟩, .int .i64 1] rfl rfl itvSize (by simp [Value.oneCell']) ?_; intro W2 hp2) | fail)
        have J1 := hp2.here
        have J0 := hp2.other HK.out.1 (by omega)
        have HB2 := Lib.hid (hp2.below HB0.out (by omega))
        have HMX := Lib.hid (HM.out.below HB2.out)
        have x0 := Lib.cell_of_heap J1 0
        have x1 := Lib.cell_of_heap J1 1
        have x2 := Lib.cell_of_heap J1 2
        have x3 := Lib.cell_of_heap J1 3
        have y0 := Lib.cell_of_heap J0 0
        have y1 := Lib.cell_of_heap J0 1
        have y2 := Lib.cell_of_heap J0 2
        have y3 := Lib.cell_of_heap J0 3
        have f0 := Lib.frozen_of_heap J0 0
        have f1 := Lib.frozen_of_heap J0 1
        have f2 := Lib.frozen_of_heap J0 2
        have f3 := Lib.frozen_of_heap J0 3
        have HJ := Lib.hid J0
        clear hp2 J0 J1 c0 c1 c2 c3 c4
        simp only [List.getElem?_toArray, List.getElem?_cons_zero, List.getElem?_cons_succ] at x0 x1 x2 x3 y0 y1 y2 y3
        go_region_held3 (fun W' => Below w.heap.size w W' ∧ W'.cell? ⟨w.heap.size + 1, 0, none⟩ = some (.string ⟨#[]⟩) ∧ W'.cell? ⟨w.heap.size + 1, 1, none⟩ = some (.int .i64 0) ∧ W'.cell? ⟨w.heap.size + 1, 2, none⟩ = some (.string ⟨u.toArray⟩) ∧ W'.cell? ⟨w.heap.size + 1, 3, none⟩ = some (.int .i64 1))
          (first
            | (go_split_ands; exact ⟨Below.trans (by assumption) (hbq.mono (Below.size (by assumption))), below_keep hbq (by assumption), below_keep hbq (by assumption), below_keep hbq (by assumption), below_keep hbq (by assumption)⟩)
            | (exact ⟨HB2.out.drew, x0, x1, x2, x3⟩)
            | (go_split_ands; refine ⟨((((by assumption : Below w.heap.size w _).setCell (Nat.le_refl _) _).setCell (Nat.le_refl _) _).setCell (Nat.le_refl _) _).setCell (Nat.le_refl _) _, ?_, ?_, ?_, ?_⟩ <;> go_keep)
            | go_keep)
          (first | (go_at_call 45; refine (valid_any n ⟨u.toArray⟩ _ (HM.out.below (by first | assumption | exact And.left (by assumption))) HUL.out).mono ?_; rintro e wq ⟨rfl, hbq⟩; have q0 : wq.cell? ⟨w.heap.size, 0, none⟩ = some (.string ⟨#[]⟩) := (hbq.cell (p := ⟨w.heap.size, 0, none⟩) (World.block_lt_of_cell? _ _ y0)).trans y0; have p0 : wq.frozen? ⟨w.heap.size, 0, none⟩ = false := (hbq.frozen (p := ⟨w.heap.size, 0, none⟩) (World.block_lt_of_cell? _ _ y0)).trans f0; have q1 : wq.cell? ⟨w.heap.size, 1, none⟩ = some (.int .i64 0) := (hbq.cell (p := ⟨w.heap.size, 1, none⟩) (World.block_lt_of_cell? _ _ y1)).trans y1; have p1 : wq.frozen? ⟨w.heap.size, 1, none⟩ = false := (hbq.frozen (p := ⟨w.heap.size, 1, none⟩) (World.block_lt_of_cell? _ _ y1)).trans f1; have q2 : wq.cell? ⟨w.heap.size, 2, none⟩ = some (.string ⟨#[]⟩) := (hbq.cell (p := ⟨w.heap.size, 2, none⟩) (World.block_lt_of_cell? _ _ y2)).trans y2; have p2 : wq.frozen? ⟨w.heap.size, 2, none⟩ = false := (hbq.frozen (p := ⟨w.heap.size, 2, none⟩) (World.block_lt_of_cell? _ _ y2)).trans f2; have q3 : wq.cell? ⟨w.heap.size, 3, none⟩ = some (.int .i64 0) := (hbq.cell (p := ⟨w.heap.size, 3, none⟩) (World.block_lt_of_cell? _ _ y3)).trans y3; have p3 : wq.frozen? ⟨w.heap.size, 3, none⟩ = false := (hbq.frozen (p := ⟨w.heap.size, 3, none⟩) (World.block_lt_of_cell? _ _ y3)).trans f3))
        rename_i hS
        have HBZ := Lib.hid (And.left hS)
        clear hS
        go_wp2
        exact bodyPost_ret (v := .tuple #[.agg #[.string ⟨#[]⟩, .int .i64 0, .string ⟨u.toArray⟩, .int .i64 1], .bool (V.valid n u)]) (by simp [results, Tryz.results92, go_sem, q0, q1, q2, q3]) rfl (condPost_mk (y := V.condI 1 u) HO2.out HBZ.out)
    · rcases hp : Lib.hasPrefix s (V.opT 2) with _ | _
      · have HN : Hid (V.noOp s (2 + 1)) := Lib.hid (V.noOp_step HNO.out hp)
        have HP := Lib.hid hp
        clear hp
        go_wp2_with fail
        refine (cutPre_any s (V.opT 2) _).mono ?_
        rintro e w' ⟨rfl, rfl⟩
        rw [HP.out]
        generalize Lib.trimPrefix s (V.opT 2) = u
        go_wp2_with fail
        go_roundw
        case rel => exact ⟨2 + 1, by omega, by first | trivial | rfl, by first | trivial | go_num, HN.out, by first | trivial | rfl⟩
        case measure => simp [intOf]
      · have HO := Lib.hid (V.opOf_at (by omega) HNO.out hp)
        have HP := Lib.hid hp
        have HTR := Lib.hid (trim_at hp)
        clear hp
        go_wp2_with fail
        refine (cutPre_any s (V.opT 2) _).mono ?_
        rintro e w' ⟨rfl, rfl⟩
        rw [HP.out, HTR.out]
        have HUL : Hid ((ByteArray.mk (s.drop (V.opT 2).length).toArray).size ≤ maxLen) := Lib.hid (by have := drop_len s (V.opT 2).length HS.out; show (s.drop (V.opT 2).length).toArray.size ≤ _; unfold maxLen; simp only [List.size_toArray]; omega)
        have HO2 := Lib.hid (cond_some (n := n) HO.out)
        generalize s.drop (V.opT 2).length = u at *
        go_wp2_with (first | (refine wl_putRow rfl 64 _ _ rfl (w.heap.size + 1) #[.string ⟨#[]⟩, .int .i64 0, .string ⟨#[]⟩, .int .i64 0] _ HK.out.2 rfl #[.string ⟨u.toArray⟩, .int .i64 1, .string ⟨u.toArray⟩, .int .i64 1] rfl rfl itvSize (by simp [Value.oneCell']) ?_; intro W2 hp2) | fail)
        have J1 := hp2.here
        have J0 := hp2.other HK.out.1 (by omega)
        have HB2 := Lib.hid (hp2.below HB0.out (by omega))
        have HMX := Lib.hid (HM.out.below HB2.out)
        have x0 := Lib.cell_of_heap J1 0
        have x1 := Lib.cell_of_heap J1 1
        have x2 := Lib.cell_of_heap J1 2
        have x3 := Lib.cell_of_heap J1 3
        have y0 := Lib.cell_of_heap J0 0
        have y1 := Lib.cell_of_heap J0 1
        have y2 := Lib.cell_of_heap J0 2
        have y3 := Lib.cell_of_heap J0 3
        have f0 := Lib.frozen_of_heap J0 0
        have f1 := Lib.frozen_of_heap J0 1
        have f2 := Lib.frozen_of_heap J0 2
        have f3 := Lib.frozen_of_heap J0 3
        have HJ := Lib.hid J0
        clear hp2 J0 J1 c0 c1 c2 c3 c4
        simp only [List.getElem?_toArray, List.getElem?_cons_zero, List.getElem?_cons_succ] at x0 x1 x2 x3 y0 y1 y2 y3
        go_region_held3 (fun W' => Below w.heap.size w W' ∧ W'.cell? ⟨w.heap.size + 1, 0, none⟩ = some (.string ⟨u.toArray⟩) ∧ W'.cell? ⟨w.heap.size + 1, 1, none⟩ = some (.int .i64 1) ∧ W'.cell? ⟨w.heap.size + 1, 2, none⟩ = some (.string ⟨u.toArray⟩) ∧ W'.cell? ⟨w.heap.size + 1, 3, none⟩ = some (.int .i64 1))
          (first
            | (go_split_ands; exact ⟨Below.trans (by assumption) (hbq.mono (Below.size (by assumption))), below_keep hbq (by assumption), below_keep hbq (by assumption), below_keep hbq (by assumption), below_keep hbq (by assumption)⟩)
            | (exact ⟨HB2.out.drew, x0, x1, x2, x3⟩)
            | (go_split_ands; refine ⟨((((by assumption : Below w.heap.size w _).setCell (Nat.le_refl _) _).setCell (Nat.le_refl _) _).setCell (Nat.le_refl _) _).setCell (Nat.le_refl _) _, ?_, ?_, ?_, ?_⟩ <;> go_keep)
            | go_keep)
          (first | (go_at_call 45; refine (valid_any n ⟨u.toArray⟩ _ (HM.out.below (by first | assumption | exact And.left (by assumption))) HUL.out).mono ?_; rintro e wq ⟨rfl, hbq⟩; have q0 : wq.cell? ⟨w.heap.size, 0, none⟩ = some (.string ⟨#[]⟩) := (hbq.cell (p := ⟨w.heap.size, 0, none⟩) (World.block_lt_of_cell? _ _ y0)).trans y0; have p0 : wq.frozen? ⟨w.heap.size, 0, none⟩ = false := (hbq.frozen (p := ⟨w.heap.size, 0, none⟩) (World.block_lt_of_cell? _ _ y0)).trans f0; have q1 : wq.cell? ⟨w.heap.size, 1, none⟩ = some (.int .i64 0) := (hbq.cell (p := ⟨w.heap.size, 1, none⟩) (World.block_lt_of_cell? _ _ y1)).trans y1; have p1 : wq.frozen? ⟨w.heap.size, 1, none⟩ = false := (hbq.frozen (p := ⟨w.heap.size, 1, none⟩) (World.block_lt_of_cell? _ _ y1)).trans f1; have q2 : wq.cell? ⟨w.heap.size, 2, none⟩ = some (.string ⟨#[]⟩) := (hbq.cell (p := ⟨w.heap.size, 2, none⟩) (World.block_lt_of_cell? _ _ y2)).trans y2; have p2 : wq.frozen? ⟨w.heap.size, 2, none⟩ = false := (hbq.frozen (p := ⟨w.heap.size, 2, none⟩) (World.block_lt_of_cell? _ _ y2)).trans f2; have q3 : wq.cell? ⟨w.heap.size, 3, none⟩ = some (.int .i64 0) := (hbq.cell (p := ⟨w.heap.size, 3, none⟩) (World.block_lt_of_cell? _ _ y3)).trans y3; have p3 : wq.frozen? ⟨w.heap.size, 3, none⟩ = false := (hbq.frozen (p := ⟨w.heap.size, 3, none⟩) (World.block_lt_of_cell? _ _ y3)).trans f3))
        rename_i hS
        have HBZ := Lib.hid (And.left hS)
        clear hS
        go_wp2
        exact bodyPost_ret (v := .tuple #[.agg #[.string ⟨u.toArray⟩, .int .i64 1, .string ⟨u.toArray⟩, .int .i64 1], .bool (V.valid n u)]) (by simp [results, Tryz.results92, go_sem, q0, q1, q2, q3]) rfl (condPost_mk (y := V.condI 2 u) HO2.out HBZ.out)
    · rcases hp : Lib.hasPrefix s (V.opT 3) with _ | _
      · have HN : Hid (V.noOp s (3 + 1)) := Lib.hid (V.noOp_step HNO.out hp)
        have HP := Lib.hid hp
        clear hp
        go_wp2_with fail
        refine (cutPre_any s (V.opT 3) _).mono ?_
        rintro e w' ⟨rfl, rfl⟩
        rw [HP.out]
        generalize Lib.trimPrefix s (V.opT 3) = u
        go_wp2_with fail
        go_roundw
        case rel => exact ⟨3 + 1, by omega, by first | trivial | rfl, by first | trivial | go_num, HN.out, by first | trivial | rfl⟩
        case measure => simp [intOf]
      · have HO := Lib.hid (V.opOf_at (by omega) HNO.out hp)
        have HP := Lib.hid hp
        have HTR := Lib.hid (trim_at hp)
        clear hp
        go_wp2_with fail
        refine (cutPre_any s (V.opT 3) _).mono ?_
        rintro e w' ⟨rfl, rfl⟩
        rw [HP.out, HTR.out]
        have HUL : Hid ((ByteArray.mk (s.drop (V.opT 3).length).toArray).size ≤ maxLen) := Lib.hid (by have := drop_len s (V.opT 3).length HS.out; show (s.drop (V.opT 3).length).toArray.size ≤ _; unfold maxLen; simp only [List.size_toArray]; omega)
        have HO2 := Lib.hid (cond_some (n := n) HO.out)
        generalize s.drop (V.opT 3).length = u at *
        go_wp2_with (first | (refine wl_putRow rfl 64 _ _ rfl (w.heap.size + 1) #[.string ⟨#[]⟩, .int .i64 0, .string ⟨#[]⟩, .int .i64 0] _ HK.out.2 rfl #[.string ⟨#[]⟩, .int .i64 0, .string ⟨u.toArray⟩, .int .i64 2] rfl rfl itvSize (by simp [Value.oneCell']) ?_; intro W2 hp2) | fail)
        have J1 := hp2.here
        have J0 := hp2.other HK.out.1 (by omega)
        have HB2 := Lib.hid (hp2.below HB0.out (by omega))
        have HMX := Lib.hid (HM.out.below HB2.out)
        have x0 := Lib.cell_of_heap J1 0
        have x1 := Lib.cell_of_heap J1 1
        have x2 := Lib.cell_of_heap J1 2
        have x3 := Lib.cell_of_heap J1 3
        have y0 := Lib.cell_of_heap J0 0
        have y1 := Lib.cell_of_heap J0 1
        have y2 := Lib.cell_of_heap J0 2
        have y3 := Lib.cell_of_heap J0 3
        have f0 := Lib.frozen_of_heap J0 0
        have f1 := Lib.frozen_of_heap J0 1
        have f2 := Lib.frozen_of_heap J0 2
        have f3 := Lib.frozen_of_heap J0 3
        have HJ := Lib.hid J0
        clear hp2 J0 J1 c0 c1 c2 c3 c4
        simp only [List.getElem?_toArray, List.getElem?_cons_zero, List.getElem?_cons_succ] at x0 x1 x2 x3 y0 y1 y2 y3
        go_region_held3 (fun W' => Below w.heap.size w W' ∧ W'.cell? ⟨w.heap.size + 1, 0, none⟩ = some (.string ⟨#[]⟩) ∧ W'.cell? ⟨w.heap.size + 1, 1, none⟩ = some (.int .i64 0) ∧ W'.cell? ⟨w.heap.size + 1, 2, none⟩ = some (.string ⟨u.toArray⟩) ∧ W'.cell? ⟨w.heap.size + 1, 3, none⟩ = some (.int .i64 2))
          (first
            | (go_split_ands; exact ⟨Below.trans (by assumption) (hbq.mono (Below.size (by assumption))), below_keep hbq (by assumption), below_keep hbq (by assumption), below_keep hbq (by assumption), below_keep hbq (by assumption)⟩)
            | (exact ⟨HB2.out.drew, x0, x1, x2, x3⟩)
            | (go_split_ands; refine ⟨((((by assumption : Below w.heap.size w _).setCell (Nat.le_refl _) _).setCell (Nat.le_refl _) _).setCell (Nat.le_refl _) _).setCell (Nat.le_refl _) _, ?_, ?_, ?_, ?_⟩ <;> go_keep)
            | go_keep)
          (first | (go_at_call 45; refine (valid_any n ⟨u.toArray⟩ _ (HM.out.below (by first | assumption | exact And.left (by assumption))) HUL.out).mono ?_; rintro e wq ⟨rfl, hbq⟩; have q0 : wq.cell? ⟨w.heap.size, 0, none⟩ = some (.string ⟨#[]⟩) := (hbq.cell (p := ⟨w.heap.size, 0, none⟩) (World.block_lt_of_cell? _ _ y0)).trans y0; have p0 : wq.frozen? ⟨w.heap.size, 0, none⟩ = false := (hbq.frozen (p := ⟨w.heap.size, 0, none⟩) (World.block_lt_of_cell? _ _ y0)).trans f0; have q1 : wq.cell? ⟨w.heap.size, 1, none⟩ = some (.int .i64 0) := (hbq.cell (p := ⟨w.heap.size, 1, none⟩) (World.block_lt_of_cell? _ _ y1)).trans y1; have p1 : wq.frozen? ⟨w.heap.size, 1, none⟩ = false := (hbq.frozen (p := ⟨w.heap.size, 1, none⟩) (World.block_lt_of_cell? _ _ y1)).trans f1; have q2 : wq.cell? ⟨w.heap.size, 2, none⟩ = some (.string ⟨#[]⟩) := (hbq.cell (p := ⟨w.heap.size, 2, none⟩) (World.block_lt_of_cell? _ _ y2)).trans y2; have p2 : wq.frozen? ⟨w.heap.size, 2, none⟩ = false := (hbq.frozen (p := ⟨w.heap.size, 2, none⟩) (World.block_lt_of_cell? _ _ y2)).trans f2; have q3 : wq.cell? ⟨w.heap.size, 3, none⟩ = some (.int .i64 0) := (hbq.cell (p := ⟨w.heap.size, 3, none⟩) (World.block_lt_of_cell? _ _ y3)).trans y3; have p3 : wq.frozen? ⟨w.heap.size, 3, none⟩ = false := (hbq.frozen (p := ⟨w.heap.size, 3, none⟩) (World.block_lt_of_cell? _ _ y3)).trans f3))
        rename_i hS
        have HBZ := Lib.hid (And.left hS)
        clear hS
        go_wp2
        exact bodyPost_ret (v := .tuple #[.agg #[.string ⟨#[]⟩, .int .i64 0, .string ⟨u.toArray⟩, .int .i64 2], .bool (V.valid n u)]) (by simp [results, Tryz.results92, go_sem, q0, q1, q2, q3]) rfl (condPost_mk (y := V.condI 3 u) HO2.out HBZ.out)
    · rcases hp : Lib.hasPrefix s (V.opT 4) with _ | _
      · have HN : Hid (V.noOp s (4 + 1)) := Lib.hid (V.noOp_step HNO.out hp)
        have HP := Lib.hid hp
        clear hp
        go_wp2_with fail
        refine (cutPre_any s (V.opT 4) _).mono ?_
        rintro e w' ⟨rfl, rfl⟩
        rw [HP.out]
        generalize Lib.trimPrefix s (V.opT 4) = u
        go_wp2_with fail
        go_roundw
        case rel => exact ⟨4 + 1, by omega, by first | trivial | rfl, by first | trivial | go_num, HN.out, by first | trivial | rfl⟩
        case measure => simp [intOf]
      · have HO := Lib.hid (V.opOf_at (by omega) HNO.out hp)
        have HP := Lib.hid hp
        have HTR := Lib.hid (trim_at hp)
        clear hp
        go_wp2_with fail
        refine (cutPre_any s (V.opT 4) _).mono ?_
        rintro e w' ⟨rfl, rfl⟩
        rw [HP.out, HTR.out]
        have HUL : Hid ((ByteArray.mk (s.drop (V.opT 4).length).toArray).size ≤ maxLen) := Lib.hid (by have := drop_len s (V.opT 4).length HS.out; show (s.drop (V.opT 4).length).toArray.size ≤ _; unfold maxLen; simp only [List.size_toArray]; omega)
        have HO2 := Lib.hid (cond_some (n := n) HO.out)
        generalize s.drop (V.opT 4).length = u at *
        go_wp2_with (first | (refine wl_putRow rfl 64 _ _ rfl (w.heap.size + 1) #[.string ⟨#[]⟩, .int .i64 0, .string ⟨#[]⟩, .int .i64 0] _ HK.out.2 rfl #[.string ⟨u.toArray⟩, .int .i64 2, .string ⟨#[]⟩, .int .i64 0] rfl rfl itvSize (by simp [Value.oneCell']) ?_; intro W2 hp2) | fail)
        have J1 := hp2.here
        have J0 := hp2.other HK.out.1 (by omega)
        have HB2 := Lib.hid (hp2.below HB0.out (by omega))
        have HMX := Lib.hid (HM.out.below HB2.out)
        have x0 := Lib.cell_of_heap J1 0
        have x1 := Lib.cell_of_heap J1 1
        have x2 := Lib.cell_of_heap J1 2
        have x3 := Lib.cell_of_heap J1 3
        have y0 := Lib.cell_of_heap J0 0
        have y1 := Lib.cell_of_heap J0 1
        have y2 := Lib.cell_of_heap J0 2
        have y3 := Lib.cell_of_heap J0 3
        have f0 := Lib.frozen_of_heap J0 0
        have f1 := Lib.frozen_of_heap J0 1
        have f2 := Lib.frozen_of_heap J0 2
        have f3 := Lib.frozen_of_heap J0 3
        have HJ := Lib.hid J0
        clear hp2 J0 J1 c0 c1 c2 c3 c4
        simp only [List.getElem?_toArray, List.getElem?_cons_zero, List.getElem?_cons_succ] at x0 x1 x2 x3 y0 y1 y2 y3
        go_region_held3 (fun W' => Below w.heap.size w W' ∧ W'.cell? ⟨w.heap.size + 1, 0, none⟩ = some (.string ⟨u.toArray⟩) ∧ W'.cell? ⟨w.heap.size + 1, 1, none⟩ = some (.int .i64 2) ∧ W'.cell? ⟨w.heap.size + 1, 2, none⟩ = some (.string ⟨#[]⟩) ∧ W'.cell? ⟨w.heap.size + 1, 3, none⟩ = some (.int .i64 0))
          (first
            | (go_split_ands; exact ⟨Below.trans (by assumption) (hbq.mono (Below.size (by assumption))), below_keep hbq (by assumption), below_keep hbq (by assumption), below_keep hbq (by assumption), below_keep hbq (by assumption)⟩)
            | (exact ⟨HB2.out.drew, x0, x1, x2, x3⟩)
            | (go_split_ands; refine ⟨((((by assumption : Below w.heap.size w _).setCell (Nat.le_refl _) _).setCell (Nat.le_refl _) _).setCell (Nat.le_refl _) _).setCell (Nat.le_refl _) _, ?_, ?_, ?_, ?_⟩ <;> go_keep)
            | go_keep)
          (first | (go_at_call 45; refine (valid_any n ⟨u.toArray⟩ _ (HM.out.below (by first | assumption | exact And.left (by assumption))) HUL.out).mono ?_; rintro e wq ⟨rfl, hbq⟩; have q0 : wq.cell? ⟨w.heap.size, 0, none⟩ = some (.string ⟨#[]⟩) := (hbq.cell (p := ⟨w.heap.size, 0, none⟩) (World.block_lt_of_cell? _ _ y0)).trans y0; have p0 : wq.frozen? ⟨w.heap.size, 0, none⟩ = false := (hbq.frozen (p := ⟨w.heap.size, 0, none⟩) (World.block_lt_of_cell? _ _ y0)).trans f0; have q1 : wq.cell? ⟨w.heap.size, 1, none⟩ = some (.int .i64 0) := (hbq.cell (p := ⟨w.heap.size, 1, none⟩) (World.block_lt_of_cell? _ _ y1)).trans y1; have p1 : wq.frozen? ⟨w.heap.size, 1, none⟩ = false := (hbq.frozen (p := ⟨w.heap.size, 1, none⟩) (World.block_lt_of_cell? _ _ y1)).trans f1; have q2 : wq.cell? ⟨w.heap.size, 2, none⟩ = some (.string ⟨#[]⟩) := (hbq.cell (p := ⟨w.heap.size, 2, none⟩) (World.block_lt_of_cell? _ _ y2)).trans y2; have p2 : wq.frozen? ⟨w.heap.size, 2, none⟩ = false := (hbq.frozen (p := ⟨w.heap.size, 2, none⟩) (World.block_lt_of_cell? _ _ y2)).trans f2; have q3 : wq.cell? ⟨w.heap.size, 3, none⟩ = some (.int .i64 0) := (hbq.cell (p := ⟨w.heap.size, 3, none⟩) (World.block_lt_of_cell? _ _ y3)).trans y3; have p3 : wq.frozen? ⟨w.heap.size, 3, none⟩ = false := (hbq.frozen (p := ⟨w.heap.size, 3, none⟩) (World.block_lt_of_cell? _ _ y3)).trans f3))
        rename_i hS
        have HBZ := Lib.hid (And.left hS)
        clear hS
        go_wp2
        exact bodyPost_ret (v := .tuple #[.agg #[.string ⟨u.toArray⟩, .int .i64 2, .string ⟨#[]⟩, .int .i64 0], .bool (V.valid n u)]) (by simp [results, Tryz.results92, go_sem, q0, q1, q2, q3]) rfl (condPost_mk (y := V.condI 4 u) HO2.out HBZ.out)
    · have HO := Lib.hid (V.opOf_no HNO.out)
      have HO2 : Hid (V.condP n s = if V.valid n [] then some V.noI else none) := Lib.hid (by unfold V.condP; rw [HO.out, V.valid_nil]; rfl)
      have HUL : Hid ((ByteArray.mk #[]).size ≤ maxLen) := Lib.hid (by show 0 ≤ _; exact Nat.zero_le _)
      have HB2 := Lib.hid HB0.out
      obtain ⟨J0, J1⟩ := HK.out
      have x0 := Lib.cell_of_heap J1 0
      have x1 := Lib.cell_of_heap J1 1
      have x2 := Lib.cell_of_heap J1 2
      have x3 := Lib.cell_of_heap J1 3
      have y0 := Lib.cell_of_heap J0 0
      have y1 := Lib.cell_of_heap J0 1
      have y2 := Lib.cell_of_heap J0 2
      have y3 := Lib.cell_of_heap J0 3
      have f0 := Lib.frozen_of_heap J0 0
      have f1 := Lib.frozen_of_heap J0 1
      have f2 := Lib.frozen_of_heap J0 2
      have f3 := Lib.frozen_of_heap J0 3
      clear J0 J1 c0 c1 c2 c3 c4
      simp only [List.getElem?_toArray, List.getElem?_cons_zero, List.getElem?_cons_succ] at x0 x1 x2 x3 y0 y1 y2 y3
      go_wp2_with fail
      go_region_held3 (fun W' => Below w.heap.size w W' ∧ W'.cell? ⟨w.heap.size + 1, 0, none⟩ = some (.string ⟨#[]⟩) ∧ W'.cell? ⟨w.heap.size + 1, 1, none⟩ = some (.int .i64 0) ∧ W'.cell? ⟨w.heap.size + 1, 2, none⟩ = some (.string ⟨#[]⟩) ∧ W'.cell? ⟨w.heap.size + 1, 3, none⟩ = some (.int .i64 0))
        (first
          | (go_split_ands; exact ⟨Below.trans (by assumption) (hbq.mono (Below.size (by assumption))), below_keep hbq (by assumption), below_keep hbq (by assumption), below_keep hbq (by assumption), below_keep hbq (by assumption)⟩)
          | (exact ⟨HB2.out.drew, x0, x1, x2, x3⟩)
          | (go_split_ands; refine ⟨((((by assumption : Below w.heap.size w _).setCell (Nat.le_refl _) _).setCell (Nat.le_refl _) _).setCell (Nat.le_refl _) _).setCell (Nat.le_refl _) _, ?_, ?_, ?_, ?_⟩ <;> go_keep)
          | go_keep)
        (first | (go_at_call 45; refine (valid_any n ⟨#[]⟩ _ (HM.out.below (by first | assumption | exact And.left (by assumption))) HUL.out).mono ?_; rintro e wq ⟨rfl, hbq⟩; have q0 : wq.cell? ⟨w.heap.size, 0, none⟩ = some (.string ⟨#[]⟩) := (hbq.cell (p := ⟨w.heap.size, 0, none⟩) (World.block_lt_of_cell? _ _ y0)).trans y0; have p0 : wq.frozen? ⟨w.heap.size, 0, none⟩ = false := (hbq.frozen (p := ⟨w.heap.size, 0, none⟩) (World.block_lt_of_cell? _ _ y0)).trans f0; have q1 : wq.cell? ⟨w.heap.size, 1, none⟩ = some (.int .i64 0) := (hbq.cell (p := ⟨w.heap.size, 1, none⟩) (World.block_lt_of_cell? _ _ y1)).trans y1; have p1 : wq.frozen? ⟨w.heap.size, 1, none⟩ = false := (hbq.frozen (p := ⟨w.heap.size, 1, none⟩) (World.block_lt_of_cell? _ _ y1)).trans f1; have q2 : wq.cell? ⟨w.heap.size, 2, none⟩ = some (.string ⟨#[]⟩) := (hbq.cell (p := ⟨w.heap.size, 2, none⟩) (World.block_lt_of_cell? _ _ y2)).trans y2; have p2 : wq.frozen? ⟨w.heap.size, 2, none⟩ = false := (hbq.frozen (p := ⟨w.heap.size, 2, none⟩) (World.block_lt_of_cell? _ _ y2)).trans f2; have q3 : wq.cell? ⟨w.heap.size, 3, none⟩ = some (.int .i64 0) := (hbq.cell (p := ⟨w.heap.size, 3, none⟩) (World.block_lt_of_cell? _ _ y3)).trans y3; have p3 : wq.frozen? ⟨w.heap.size, 3, none⟩ = false := (hbq.frozen (p := ⟨w.heap.size, 3, none⟩) (World.block_lt_of_cell? _ _ y3)).trans f3))
      rename_i hS
      have HBZ := Lib.hid (And.left hS)
      clear hS
      go_wp2
      exact bodyPost_ret (v := .tuple #[.agg #[.string ⟨#[]⟩, .int .i64 0, .string ⟨#[]⟩, .int .i64 0], .bool (V.valid n [])]) (by simp [results, Tryz.results92, go_sem, q0, q1, q2, q3]) rfl (condPost_mk (y := V.noI) HO2.out HBZ.out)
end Go.Proofs.YtolojkkhmamddaaGreatDoor
namespace Go.Proofs.YtolojkkhmamddaaGreatDoor
open Go.RowKit

/-- the set of an alternative, or none -/
def AltPost (n : Int) (r : Option (List V.Itv)) (w : World) (e : Ending) (w' : World) : Prop :=
  ∃ (m : Int) (u : Value) (l : List V.Itv) (b : Bool), e = .returned (.tuple #[setV m u, .bool b]) ∧ (b = false ∧ r = none ∨ b = true ∧ m = n ∧ r = some l) ∧ Itvs w' u l ∧ (∀ c, u.ownBlock = some c → w.heap.size ≤ c) ∧ Below w.heap.size w w'
theorem AltPost.no {n : Int} {w w' : World} (h : Below w.heap.size w w') : AltPost n none w (.returned (.tuple #[setV 0 (.slice none 0 0), .bool false])) w' :=
  ⟨0, _, [], false, rfl, .inl ⟨rfl, rfl⟩, Itvs.nil _, (fun c hc => by cases hc), h⟩
theorem AltPost.yes {n : Int} {w w' : World} {u : Value} {l : List V.Itv} {r : Option (List V.Itv)} (hr : r = some l) (h : Below w.heap.size w w') (hu : Itvs w' u l) (ho : ∀ c, u.ownBlock = some c → w.heap.size ≤ c) : AltPost n r w (.returned (.tuple #[setV n u, .bool true])) w' :=
  ⟨n, u, l, true, rfl, .inr ⟨rfl, rfl, hr⟩, hu, ho, h⟩
theorem altGo_step {n : Int} {out : List V.Itv} {L : List V.Bs} {k : Nat} {y : V.Itv} (hk : k < L.length) (hy : V.condP n L[k] = some y) : V.altGo n out (L.drop k) = V.altGo n (V.opL n V.andF out [y]) (L.drop (k + 1)) := by
  rw [List.drop_eq_getElem_cons hk, V.altGo, hy]
theorem altGo_none {n : Int} {out : List V.Itv} {L : List V.Bs} {k : Nat} (hk : k < L.length) (hy : V.condP n L[k] = none) : V.altGo n out (L.drop k) = none := by
  rw [List.drop_eq_getElem_cons hk, V.altGo, hy]
theorem itvs_at {w : World} {b : Nat} {y : V.Itv} (h : w.heap[b]? = some (.cells (itvC y) 64 (0, 0))) : Itvs w (.slice (some ⟨b, 0, none⟩) 1 1) [y] := by
  refine ⟨_, 1, rfl, fun j hj => ?_⟩
  obtain rfl : j = 0 := by simpa using hj
  exact ⟨b, 0, rfl, (Array.getElem?_eq_some_iff.1 h).1, Lib.cell_of_heap h 0, Lib.cell_of_heap h 1, Lib.cell_of_heap h 2, Lib.cell_of_heap h 3⟩
theorem rgAltAnd_f (x y : Bool) (w : World) : Calls Tryz.prog 93 #[.bool x, .bool y] w fun e w' => e = .returned (.bool (V.andF x y)) ∧ w = w' := by
  cases x <;> cases y
  all_goals
    go_enter Tryz.func93, Tryz.ntmps93
    go_wp2
    go_ret
    exact ⟨rfl, rfl⟩

/-- what the loop over the conditions keeps: block B holds the result, block X the set u of the intervals out, block G the texts L -/
structure AltInv (n : Int) (w : World) (B X G : Nat) (L : List V.Bs) (out : List V.Itv) (u : Value) (W : World) : Prop where
  below : Below w.heap.size w W
  res : W.heap[B]? = some (.cells #[.int .i64 0, .slice none 0 0] 25 (0, 0))
  box : W.heap[X]? = some (.cells #[.int .i64 n, u] 25 (0, 0))
  one : V.One n out
  set : Itvs W u out
  own : ∀ c, u.ownBlock = some c → w.heap.size ≤ c ∧ c ≠ X ∧ c ≠ B
  txt : ∀ j (h : j < L.length), W.cell? ⟨G, j, none⟩ = some (.string ⟨L[j].toArray⟩)
theorem AltInv.later {n : Int} {w W W' : World} {B X G : Nat} {L : List V.Bs} {out : List V.Itv} {u : Value} (h : AltInv n w B X G L out u W) (hb : Below W.heap.size W W') : AltInv n w B X G L out u W' :=
  ⟨h.below.trans (hb.mono h.below.size), keep4 hb h.res, keep4 hb h.box, h.one, h.set.below hb, h.own, fun j hj => below_keep hb (h.txt j hj)⟩
/-- a further set in block X -/
theorem AltInv.put {n : Int} {w W W' : World} {B X G : Nat} {L : List V.Bs} {out out' : List V.Itv} {u u' : Value} (h : AltInv n w B X G L out u W) (hp : PutAt W W' X #[.int .i64 n, u'] 25) (hX : w.heap.size ≤ X) (hBX : B ≠ X) (hGX : G ≠ X)
    (ho : V.One n out') (hs : Itvs W u' out') (hw : ∀ c, u'.ownBlock = some c → w.heap.size ≤ c ∧ c ≠ X ∧ c ≠ B) : AltInv n w B X G L out' u' W' :=
  ⟨hp.below h.below hX, hp.other h.res hBX, hp.here, ho, hp.itvs hs (fun c hc => (hw c hc).2.1), hw, fun j hj => hp.cell (h.txt j hj) hGX⟩

set_option maxRecDepth 100000 in
set_option maxHeartbeats 6400000 in
theorem rgAlternative_any (n : Int) (s : V.Bs) (w : World) (hm : MaxOk w) (hn : V.scheme n = true) (hs : s.length ≤ 100000) :
    Calls Tryz.prog 69 #[.int .i64 n, .string ⟨s.toArray⟩] w (AltPost n (V.altP n s) w) := by
  have HN := Lib.hid hn
  have HM := Lib.hid hm
  have HLS := Lib.hid hs
  have HF : Hid (V.altP n s = if s = V.noneT then some [] else if s = [42] then some [V.noI] else V.altGo n [V.noI] (V.splitOn 32 s)) := Lib.hid rfl
  have HSZ : Hid ((ByteArray.mk s.toArray).size ≤ 100000) := Lib.hid (by simpa [ByteArray.size] using hs)
  have HSD : Hid ((ByteArray.mk s.toArray).data.toList = s) := Lib.hid rfl
  have hb0 : Below w.heap.size w (w.alloc (.cells #[.int .i64 0, .slice none 0 0] 25)) := (Below.refl _ w).alloc (Nat.le_refl _) _
  have K0 : Hid ((w.alloc (.cells #[.int .i64 0, .slice none 0 0] 25)).heap[w.heap.size]? = some (.cells #[.int .i64 0, .slice none 0 0] 25 (0, 0))) := Lib.hid (by rw [heap_alloc, if_pos rfl])
  have HB0 := Lib.hid hb0
  clear hb0 hm hs hn
  generalize (ByteArray.mk s.toArray) = S at *
  by_cases h1 : s = V.noneT
  · have HT : (S.toList == [110, 111, 110, 101]) = true := by rw [ByteArray.toList_eq, HSD.out, h1]; rfl
    have HR : Hid (V.altP n s = some []) := Lib.hid (by rw [HF.out, if_pos h1])
    clear h1
    go_enter Tryz.func69, Tryz.ntmps69
    go_wp2_with (first | (refine wl_putRow rfl 25 _ _ rfl w.heap.size #[.int .i64 0, .slice none 0 0] _ K0.out rfl #[.int .i64 n, .slice none 0 0] rfl rfl (by kernel_rfl) (setC_all _ _ _ _) ?_; intro W2 hp2; have z0 : W2.cell? ⟨w.heap.size, 0, none⟩ = some (.int .i64 n) := Lib.cell_of_heap hp2.here 0; have z1 : W2.cell? ⟨w.heap.size, 1, none⟩ = some (.slice none 0 0) := Lib.cell_of_heap hp2.here 1) | fail)
    have HBF := Lib.hid (hp2.below HB0.out (Nat.le_refl _))
    clear hp2
    exact bodyPost_ret (v := .tuple #[.agg #[.int .i64 n, .slice none 0 0], .bool true]) (by simp [results, Tryz.results69, go_sem, z0, z1]) rfl (AltPost.yes HR.out HBF.out (Itvs.nil _) (fun c hc => by cases hc))
  · have HT : (S.toList == [110, 111, 110, 101]) = false := by rw [beq_eq_false_iff_ne, ByteArray.toList_eq, HSD.out]; exact h1
    have HF1 : Hid (V.altP n s = if s = [42] then some [V.noI] else V.altGo n [V.noI] (V.splitOn 32 s)) := Lib.hid (by rw [HF.out, if_neg h1])
    obtain ⟨W0, hW0⟩ : ∃ W0, W0 = (w.alloc (.cells #[.int .i64 0, .slice none 0 0] 25)).alloc (.cells #[.string ⟨#[]⟩, .int .i64 0, .string ⟨#[]⟩, .int .i64 0] 64) := ⟨_, rfl⟩
    obtain ⟨W1, hW1⟩ : ∃ W1, W1 = W0.alloc (.cells #[.int .i64 n, .slice (some ⟨w.heap.size + 1, 0, none⟩) 1 1] 25) := ⟨_, rfl⟩
    have hz0 : W0.heap.size = w.heap.size + 2 := by rw [hW0]; simp
    have hI : W0.heap[w.heap.size + 1]? = some (.cells (itvC V.noI) 64 (0, 0)) := by rw [hW0, heap_alloc, if_pos (by simp)]; rfl
    have hb1 : Below W0.heap.size W0 W1 := by rw [hW1]; exact (Below.refl _ _).alloc (Nat.le_refl _) _
    have hB1 : Below w.heap.size w W1 := by rw [hW1, hW0]; exact ((HB0.out.alloc (by simp) _).alloc (by simp; omega) _)
    have hR1 : W1.heap[w.heap.size]? = some (.cells #[.int .i64 0, .slice none 0 0] 25 (0, 0)) := by rw [hW1, heap_alloc, if_neg (by omega), hW0, heap_alloc, if_neg (by simp)]; exact K0.out
    have hX1 : W1.heap[w.heap.size + 2]? = some (.cells #[.int .i64 n, .slice (some ⟨w.heap.size + 1, 0, none⟩) 1 1] 25 (0, 0)) := by rw [hW1, heap_alloc, if_pos (by omega)]
    have hz1 : W1.heap.size = w.heap.size + 3 := by rw [hW1]; simp; omega
    have hS1 : Itvs W1 (.slice (some ⟨w.heap.size + 1, 0, none⟩) 1 1) [V.noI] := (itvs_at hI).below hb1
    have HW1 : Hid (((w.alloc (.cells #[.int .i64 0, .slice none 0 0] 25)).alloc (.cells #[.string ⟨#[]⟩, .int .i64 0, .string ⟨#[]⟩, .int .i64 0] 64)).alloc (.cells #[.int .i64 n, .slice (some ⟨w.heap.size + 1, 0, none⟩) 1 1] 25) = W1) := Lib.hid (by rw [hW1, hW0])
    have HB1 := Lib.hid hB1
    have HR1 := Lib.hid hR1
    have HX1 := Lib.hid hX1
    have HZ1 := Lib.hid hz1
    have HS1 := Lib.hid hS1
    clear hW0 hW1 hz0 hI hb1 hB1 hR1 hX1 hz1 hS1 h1
    go_enter Tryz.func69, Tryz.ntmps69
    by_cases h2 : s = [42]
    · have HT2 : (S.toList == [42]) = true := by rw [ByteArray.toList_eq, HSD.out, h2]; rfl
      have HR : Hid (V.altP n s = some [V.noI]) := Lib.hid (by rw [HF1.out, if_pos h2])
      clear h2
      go_wp2_with (first | (refine wl_putRow rfl 25 _ _ rfl w.heap.size #[.int .i64 0, .slice none 0 0] _ (by rw [HW1.out]; exact HR1.out) rfl #[.int .i64 n, .slice (some ⟨w.heap.size + 1, 0, none⟩) 1 1] rfl rfl (by kernel_rfl) (setC_all _ _ _ _) ?_; rw [HW1.out]; intro W2 hp2; have z0 : W2.cell? ⟨w.heap.size, 0, none⟩ = some (.int .i64 n) := Lib.cell_of_heap hp2.here 0; have z1 : W2.cell? ⟨w.heap.size, 1, none⟩ = some (.slice (some ⟨w.heap.size + 1, 0, none⟩) 1 1) := Lib.cell_of_heap hp2.here 1) | fail)
      have HBF := Lib.hid (hp2.below HB1.out (Nat.le_refl _))
      have HIV := Lib.hid (hp2.itvs HS1.out (fun c hc => by simp [Value.ownBlock] at hc; omega))
      clear hp2
      exact bodyPost_ret (v := .tuple #[.agg #[.int .i64 n, .slice (some ⟨w.heap.size + 1, 0, none⟩) 1 1], .bool true]) (by simp [results, Tryz.results69, go_sem, z0, z1]) rfl (AltPost.yes HR.out HBF.out HIV.out (fun c hc => by simp [Value.ownBlock] at hc; omega))
    · have HT2 : (S.toList == [42]) = false := by rw [beq_eq_false_iff_ne, ByteArray.toList_eq, HSD.out]; exact h2
      have HF2 : Hid (V.altP n s = V.altGo n [V.noI] (V.splitOn 32 s)) := Lib.hid (by rw [HF1.out, if_neg h2])
      have HPL : Hid (∀ x ∈ V.splitOn 32 s, x.length ≤ 100000) := Lib.hid (fun x hx => Nat.le_trans (splitOn_mem 32 s x hx) HLS.out)
      have HLL : Hid ((V.splitOn 32 s).length ≤ 100001) := Lib.hid (Nat.le_trans (splitOn_le 32 s) (by have := HLS.out; omega))
      clear h2
      go_wp2_with fail
      rw [HW1.out]
      refine (split_any S 32 W1 (HM.out.below HB1.out) (by have := HSZ.out; omega)).mono ?_
      rintro e W2 ⟨rfl, hW2⟩
      rw [HSD.out] at hW2 ⊢
      have hb2 : Below W1.heap.size W1 W2 := by rw [hW2]; exact (Below.refl _ _).alloc (Nat.le_refl _) _
      have hINV : AltInv n w w.heap.size (w.heap.size + 2) W1.heap.size (V.splitOn 32 s) [V.noI] (.slice (some ⟨w.heap.size + 1, 0, none⟩) 1 1) W2 := by
        refine ⟨HB1.out.trans (hb2.mono HB1.out.size), keep4 hb2 HR1.out, keep4 hb2 HX1.out, V.one_all HN.out, HS1.out.below hb2, (fun c hc => ?_), (fun j hj => ?_)⟩
        · simp [Value.ownBlock] at hc; omega
        · rw [hW2, World.cell?_alloc_new]; exact strCells_at _ j hj
      have HINV := Lib.hid hINV
      have hz1 : W1.heap.size = w.heap.size + 3 := HZ1.out
      have hz2 : W2.heap.size = w.heap.size + 4 := by rw [hW2]; simp; omega
      have hll : (V.splitOn 32 s).length ≤ 100001 := HLL.out
      clear hb2 hINV hW2
      rw [hz1] at HINV ⊢
      clear hz1
      have HZ2 := Lib.hid hz2
      clear hz2
      have HNEQ : Hid (V.altP n s = V.altGo n [V.noI] ((V.splitOn 32 s).drop 0)) := Lib.hid HF2.out
      generalize V.splitOn 32 s = L at *
      go_wp2_with fail
      go_loopw [25] (fun iv wx => ∃ (k : Nat) (out : List V.Itv) (u : Value), k ≤ L.length ∧ iv = .int .i64 k ∧ V.altP n s = V.altGo n out (L.drop k) ∧ AltInv n w w.heap.size (w.heap.size + 2) (w.heap.size + 3) L out u wx) (fun iv _ => L.length - (intOf iv).toNat)
      case atStart => exact ⟨0, _, _, Nat.zero_le _, rfl, HNEQ.out, HINV.out⟩
      case round =>
        obtain ⟨k, out, u, hk, rfl, heq, hinv⟩ := hrel
        have HE := Lib.hid heq
        have HI := Lib.hid hinv
        obtain ⟨p, q, rfl⟩ := hinv.set.slice
        clear heq hinv
        have x0 : wr.cell? ⟨w.heap.size + 1 + 1, 0, none⟩ = some (.int .i64 n) := Lib.cell_of_heap HI.out.box 0
        have x1 : wr.cell? ⟨w.heap.size + 1 + 1, 1, none⟩ = some (.slice p out.length q) := Lib.cell_of_heap HI.out.box 1
        by_cases hlt : k < L.length
        · have hc := HI.out.txt k hlt
          have hi1 : (0 : Int) ≤ (k : Int) := by omega
          have hi2 : (k : Int) < (L.length : Int) := by omega
          have HLX := Lib.hid (HPL.out _ (List.getElem_mem hlt))
          have HST := Lib.hid (fun (y : V.Itv) hy => altGo_step (n := n) (out := out) (y := y) hlt hy)
          have HNO := Lib.hid (fun hy => altGo_none (n := n) (out := out) hlt hy)
          generalize L[k] = x at *
          go_wp2_with fail
          refine (rgCondition_any n x wr (HM.out.below HI.out.below) HLX.out).mono ?_
          rintro e w2 ⟨y, b, rfl, hor, hb2⟩
          have HOR := Lib.hid hor
          have HI2 := Lib.hid (HI.out.later hb2)
          clear hor hb2 hc x0 x1
          have x0 : w2.cell? ⟨w.heap.size + 1 + 1, 0, none⟩ = some (.int .i64 n) := Lib.cell_of_heap HI2.out.box 0
          have x1 : w2.cell? ⟨w.heap.size + 1 + 1, 1, none⟩ = some (.slice p out.length q) := Lib.cell_of_heap HI2.out.box 1
          unfold itvV
          rcases b with _ | _
          · have HR : Hid (V.altP n s = none) := Lib.hid (by
              rcases HOR.out with ⟨_, h⟩ | ⟨h, _⟩
              · rw [HE.out, HNO.out h]
              · cases h)
            have HBY := Lib.hid ((Below.refl w2.heap.size w2).alloc (Nat.le_refl _) (.cells (itvC y) 64))
            go_wp2_with (first | (refine wl_putRow rfl 25 _ _ rfl w.heap.size #[.int .i64 0, .slice none 0 0] _ (HI2.out.later HBY.out).res rfl #[.int .i64 0, .slice none 0 0] rfl rfl (by kernel_rfl) (setC_all _ _ _ _) ?_; intro W5 hp5; have z0 : W5.cell? ⟨w.heap.size, 0, none⟩ = some (.int .i64 0) := Lib.cell_of_heap hp5.here 0; have z1 : W5.cell? ⟨w.heap.size, 1, none⟩ = some (.slice none 0 0) := Lib.cell_of_heap hp5.here 1) | fail)
            have HBF := Lib.hid (hp5.below (HI2.out.later HBY.out).below (Nat.le_refl _))
            clear hp5
            exact bodyPost_ret (v := .tuple #[.agg #[.int .i64 0, .slice none 0 0], .bool false]) (by simp [results, Tryz.results69, go_sem, z0, z1]) rfl (by rw [HR.out]; exact AltPost.no HBF.out)
          · have HC : Hid (V.condP n x = some y) := Lib.hid (by
              rcases HOR.out with ⟨h, _⟩ | ⟨_, h⟩
              · cases h
              · exact h)
            have HOK := Lib.hid (V.condP_ok HN.out HC.out)
            have hbY : Below w2.heap.size w2 ((w2.alloc (.cells (itvC y) 64)).alloc (.cells (itvC y) 64)) := ((Below.refl _ _).alloc (Nat.le_refl _) _).alloc (by simp) _
            have HY : Hid (((w2.alloc (.cells (itvC y) 64)).alloc (.cells (itvC y) 64)).heap[w2.heap.size + 1]? = some (.cells (itvC y) 64 (0, 0))) := Lib.hid (by rw [heap_alloc, if_pos (by simp)])
            have HI4 := Lib.hid (HI2.out.later hbY)
            have HZ4 : Hid (((w2.alloc (.cells (itvC y) 64)).alloc (.cells (itvC y) 64)).heap.size = w2.heap.size + 2) := Lib.hid (by simp)
            have hb3 : Below w2.heap.size w2 (w2.alloc (.cells (itvC y) 64)) := (Below.refl _ _).alloc (Nat.le_refl _) _
            have y0 : (w2.alloc (.cells (itvC y) 64)).cell? ⟨w.heap.size + 1 + 1, 0, none⟩ = some (.int .i64 n) := below_keep hb3 x0
            have y1 : (w2.alloc (.cells (itvC y) 64)).cell? ⟨w.heap.size + 1 + 1, 1, none⟩ = some (.slice p out.length q) := below_keep hb3 x1
            clear hb3 x0 x1
            unfold itvC at y0 y1
            have HS2 : Hid (w.heap.size + 2 < w2.heap.size) := Lib.hid ((Array.getElem?_eq_some_iff.1 HI2.out.box).1)
            clear hbY
            go_wp2_with fail
            refine (rgCombine_any n out [y] (.slice p out.length q) (.slice (some ⟨w2.heap.size + 1, 0, none⟩) 1 1) 93 V.andF ((w2.alloc (.cells (itvC y) 64)).alloc (.cells (itvC y) 64)) (HM.out.below HI4.out.below) HI4.out.one.ok HOK.out HI4.out.set (itvs_at HY.out) (enters_of Tryz.func93 (by kernel_rfl) rfl) (fun x y W => rgAltAnd_f x y W)).mono ?_
            rintro e w5 ⟨u5, rfl, hu5, how5, hb5⟩
            obtain ⟨p5, q5, rfl⟩ := hu5.slice
            have HI5 := Lib.hid (HI4.out.later hb5)
            have HU5 := Lib.hid hu5
            have HO5 := Lib.hid (fun c hc => by
              have h1 := how5 c hc
              rw [HZ4.out] at h1
              exact (show w.heap.size ≤ c ∧ c ≠ w.heap.size + 2 ∧ c ≠ w.heap.size by have := HS2.out; omega))
            have HONE := Lib.hid (HI2.out.one.and ⟨HOK.out, by simp⟩)
            have HEQ : Hid (V.altP n s = V.altGo n (V.opL n V.andF out [y]) (L.drop (k + 1))) := Lib.hid (by rw [HE.out, HST.out y HC.out])
            clear hu5 how5 hb5 y0 y1
            unfold setV
            go_wp2_with (first | (refine wl_putRow rfl 25 _ _ rfl (w.heap.size + 2) _ _ HI5.out.box rfl #[.int .i64 n, .slice p5 (V.opL n V.andF out [y]).length q5] rfl rfl (by kernel_rfl) (setC_all _ _ _ _) ?_; intro W6 hp6) | fail)
            have HI6 := Lib.hid (HI5.out.put hp6 (by omega) (by omega) (by omega) HONE.out HU5.out HO5.out)
            clear hp6
            go_roundw
            case rel => exact ⟨k + 1, _, _, by omega, by go_num, HEQ.out, HI6.out⟩
            case measure => simp [intOf]; omega
        · obtain rfl : k = L.length := by omega
          have HR : Hid (V.altP n s = some out) := Lib.hid (by rw [HE.out, List.drop_length]; rfl)
          go_wp2_with (first | (refine wl_putRow rfl 25 _ _ rfl w.heap.size #[.int .i64 0, .slice none 0 0] _ HI.out.res rfl #[.int .i64 n, .slice p out.length q] rfl rfl (by kernel_rfl) (setC_all _ _ _ _) ?_; intro W5 hp5; have z0 : W5.cell? ⟨w.heap.size, 0, none⟩ = some (.int .i64 n) := Lib.cell_of_heap hp5.here 0; have z1 : W5.cell? ⟨w.heap.size, 1, none⟩ = some (.slice p out.length q) := Lib.cell_of_heap hp5.here 1) | fail)
          have HBF := Lib.hid (hp5.below HI.out.below (Nat.le_refl _))
          have HIV := Lib.hid (hp5.itvs HI.out.set (fun c hc => (HI.out.own c hc).2.2))
          clear hp5
          exact bodyPost_ret (v := .tuple #[.agg #[.int .i64 n, .slice p out.length q], .bool true]) (by simp [results, Tryz.results69, go_sem, z0, z1]) rfl (AltPost.yes HR.out HBF.out HIV.out (fun c hc => (HI.out.own c hc).1))
end Go.Proofs.YtolojkkhmamddaaGreatDoor
