/-
  Walk: made range sets.
  Range sets in blocks of their own.
-/
import Derived.Test.YtolojkkhmamddaaGreatDoorNJ
import Derived.Outline
import Derived.Deep.RegionHeld3
namespace Go.Proofs.YtolojkkhmamddaaGreatDoor
open Go.RowKit

/-- what holds while sets are made: blocks B and B + 1 are the results', B + 2 the tape -/
structure MadeInv (w : World) (k : Nat) (W : World) : Prop where
  below : Below w.heap.size w W
  r0 : W.heap[w.heap.size]? = some (.cells #[.int .i64 0, .slice none 0 0] 25 (0, 0))
  r1 : W.heap[w.heap.size + 1]? = some (.cells #[.int .i64 0, .slice none 0 0] 25 (0, 0))
  tape : Tape W (w.heap.size + 2) k
theorem MadeInv.later {w W W' : World} {k : Nat} (h : MadeInv w k W) (hb : Below W.heap.size W W') : MadeInv w k W' :=
  ⟨h.below.trans (hb.mono h.below.size), keep4 hb h.r0, keep4 hb h.r1, h.tape.below hb⟩
theorem keepG {w w' : World} {g b : Nat} {cs : Array Value} {t : TypeId} (hb : w.grownBy w' (some b)) (h : w.heap[g]? = some (.cells cs t (0, 0))) (hne : g ≠ b) : w'.heap[g]? = some (.cells cs t (0, 0)) :=
  (hb.block g (Array.getElem?_eq_some_iff.1 h).1 (fun e => hne (Option.some.inj e))).trans h
theorem below_set {B : Nat} {w W : World} (h : Below B w W) (b o : Nat) (hb : B ≤ b) (v : Value) : Below B w (W.setCell ⟨b, o, none⟩ v) := h.setCell hb v
theorem cellS2 {w : World} {b g o : Nat} {x y u : Value} (h : w.cell? ⟨g, o, none⟩ = some u) (hne : ¬ g = b) : ((w.setCell ⟨b, 0, none⟩ x).setCell ⟨b, 1, none⟩ y).cell? ⟨g, o, none⟩ = some u := by
  rw [World.cell?_setCell_other _ _ _ _ (by intro e; injection e with e; exact hne e.symm), World.cell?_setCell_other _ _ _ _ (by intro e; injection e with e; exact hne e.symm)]
  exact h
theorem cellG {w w' : World} {b g o : Nat} {u : Value} (hg : w.grownBy w' (some b)) (hc : w.cell? ⟨g, o, none⟩ = some u) (hne : g ≠ b) : w'.cell? ⟨g, o, none⟩ = some u := hg.cell hc (fun e => hne (Option.some.inj e))
theorem MadeInv.grown {w W W' : World} {k k' : Nat} (h : MadeInv w k W) (hg : W.grownBy W' (some (w.heap.size + 2))) (ht : Tape W' (w.heap.size + 2) k') : MadeInv w k' W' :=
  ⟨h.below.trans (grown_below hg (by omega) h.below.size), keepG hg h.r0 (by omega), keepG hg h.r1 (by omega), ht⟩
/-- a made set in block X -/
structure SetAt (w : World) (X : Nat) (n : Int) (u : Value) (l : List V.Itv) (W : World) : Prop where
  box : W.heap[X]? = some (.cells #[.int .i64 n, u] 25 (0, 0))
  set : Itvs W u l
  own : ∀ c, u.ownBlock = some c → w.heap.size + 2 < c
  far : w.heap.size + 2 < X
theorem SetAt.later {w W W' : World} {X : Nat} {n : Int} {u : Value} {l : List V.Itv} (h : SetAt w X n u l W) (hb : Below W.heap.size W W') : SetAt w X n u l W' := ⟨keep4 hb h.box, h.set.below hb, h.own, h.far⟩
theorem SetAt.grown {w W W' : World} {X : Nat} {n : Int} {u : Value} {l : List V.Itv} (h : SetAt w X n u l W) (hg : W.grownBy W' (some (w.heap.size + 2))) : SetAt w X n u l W' :=
  ⟨keepG hg h.box (by have := h.far; omega), h.set.grown hg (fun _ c hc e => by have := h.own c hc; cases e; omega), h.own, h.far⟩

/-- two made sets and a version -/
def MadePost (w : World) (e : Ending) (w' : World) : Prop :=
  ∃ (n : Int) (a b : List V.Itv) (v : V.Bs) (pa : Option Addr) (qa : Nat) (pb : Option Addr) (qb : Nat), V.scheme n = true ∧ V.Few n a 8 ∧ V.Few n b 8 ∧ V.valid n v = true ∧
    e = .returned (.tuple #[setV n (.slice pa a.length qa), setV n (.slice pb b.length qb), .string ⟨v.toArray⟩]) ∧ Itvs w' (.slice pa a.length qa) a ∧ Itvs w' (.slice pb b.length qb) b ∧ Below w.heap.size w w'

set_option maxRecDepth 100000 in
set_option maxHeartbeats 6400000 in
theorem made07_any (a : Option Addr) (m cap : Nat) (w : World) (hm : MaxOk w) (ht : Nums w a m) :
    Calls Tryz.prog 10 #[.slice a m cap] w (MadePost w) := by
  have HM := Lib.hid hm
  obtain ⟨W0, hW0⟩ : ∃ W0, W0 = ((w.alloc (.cells #[.int .i64 0, .slice none 0 0] 25)).alloc (.cells #[.int .i64 0, .slice none 0 0] 25)).alloc (.cells #[.slice a m cap, .int .i64 0] 46) := ⟨_, rfl⟩
  have hb0 : Below w.heap.size w W0 := by rw [hW0]; exact (((Below.refl _ w).alloc (Nat.le_refl _) _).alloc (by simp) _).alloc (by simp; omega) _
  have hz0 : W0.heap.size = w.heap.size + 3 := by rw [hW0]; simp
  have hI0 : MadeInv w 0 W0 := by
    refine ⟨hb0, ?_, ?_, Tape.made (cap := cap) ht hb0 (by omega) ?_ ?_ ?_⟩
    · rw [hW0, heap_alloc, if_neg (by simp; omega), heap_alloc, if_neg (by simp), heap_alloc, if_pos rfl]
    · rw [hW0, heap_alloc, if_neg (by simp), heap_alloc, if_pos (by simp)]
    · rw [hW0, cell_alloc, if_pos (by simp)]; rfl
    · rw [hW0, cell_alloc, if_pos (by simp)]; rfl
    · rw [hW0, frozen_alloc, if_pos (by simp)]
  have HI0 := Lib.hid hI0
  have HW0 := Lib.hid hW0
  have HZ0 := Lib.hid hz0
  clear hW0 hb0 hz0 hI0 ht hm
  go_enter Tryz.func10, Tryz.ntmps10
  go_wp2_with fail
  rw [← HW0.out]
  refine (next_any (w.heap.size + 2) 0 3 W0 HI0.out.tape (by omega) (by omega) (by omega)).mono ?_
  rintro e w1 ⟨r, hr, rfl, ht1, hg1⟩
  have HI1 := Lib.hid (HI0.out.grown hg1 ht1)
  have hr3 : r < 3 := by omega
  have HZ1 : Hid (w.heap.size + 3 ≤ w1.heap.size) := Lib.hid (by have := hg1.size; have := HZ0.out; omega)
  have HN : Hid (V.scheme (1 + (r : Int)) = true) := Lib.hid (by
    have h3 : r = 0 ∨ r = 1 ∨ r = 2 := by omega
    rcases h3 with rfl | rfl | rfl <;> rfl)
  clear ht1 hg1 hr
  go_wp2_with fail
  have hww : (1 : Int) + (r : Int) = 1 + (r : Int) := rfl
  obtain ⟨n, hn⟩ : ∃ n : Int, n = 1 + (r : Int) := ⟨_, rfl⟩
  rw [← hn] at HN
  simp only [← hn]
  clear hn hww hr3
  refine (textM_any (w.heap.size + 2) 1 n w1 HI1.out.tape (by omega) HN.out).mono ?_
  rintro e w2 ⟨S, x, rr, htx, hrr, rfl, ht2, hg2⟩
  have HI2 := Lib.hid (HI1.out.grown hg2 ht2)
  have HZ2 : Hid (w.heap.size + 3 ≤ w2.heap.size) := Lib.hid (by have := hg2.size; have := HZ1.out; omega)
  obtain ⟨la, hla, hfa⟩ := V.made_parse HN.out htx.alt hrr
  rw [← htx.join] at hla
  have HPA := Lib.hid (V.parP_some hla)
  have HFA := Lib.hid hfa
  have hSl : S.data.toList.length ≤ 1000 := by have := htx.len HN.out; rw [List.length_cons] at this; omega
  clear ht2 hg2 hla hfa htx hrr
  obtain ⟨s, rfl⟩ : ∃ s : V.Bs, S = ⟨s.toArray⟩ := ⟨S.data.toList, rfl⟩
  rw [bs_mk] at HPA hSl
  go_wp2_with fail
  refine (rrParse_any n s w2 (HM.out.below HI2.out.below) (by unfold maxLen; omega)).mono ?_
  rintro e w3 ⟨u, rfl, hu, how, hb3⟩
  rw [HPA.out] at hu ⊢
  simp only at hu ⊢
  obtain ⟨pa, qa, rfl⟩ := hu.slice
  unfold setV
  have hbX : Below w3.heap.size w3 (w3.alloc (.cells #[.int .i64 n, .slice pa la.length qa] 25)) := (Below.refl _ _).alloc (Nat.le_refl _) _
  have HIX := Lib.hid ((HI2.out.later hb3).later hbX)
  have HSA : Hid (SetAt w w3.heap.size n (.slice pa la.length qa) la (w3.alloc (.cells #[.int .i64 n, .slice pa la.length qa] 25))) := Lib.hid (by
    refine ⟨by rw [heap_alloc, if_pos rfl], hu.below hbX, fun c hc => by have := how c hc; have := HZ2.out; omega, by have := hb3.size; have := HZ2.out; omega⟩)
  have HZX : Hid (w.heap.size + 3 ≤ (w3.alloc (.cells #[.int .i64 n, .slice pa la.length qa] 25)).heap.size) := Lib.hid (by have := hb3.size; have := HZ2.out; simp; omega)
  clear hu how hb3 hbX hSl
  go_wp2_with fail
  generalize w3.alloc (.cells #[.int .i64 n, .slice pa la.length qa] 25) = w4 at *
  obtain ⟨X1, hX1⟩ : ∃ X1, X1 = w3.heap.size := ⟨_, rfl⟩
  rw [← hX1] at HSA ⊢
  clear hX1
  refine (textM_any (w.heap.size + 2) 41 n w4 HIX.out.tape (by omega) HN.out).mono ?_
  rintro e w5 ⟨S5, x5, rr5, htx, hrr, rfl, ht5, hg5⟩
  have HI5 := Lib.hid (HIX.out.grown hg5 ht5)
  have HSA5 := Lib.hid (HSA.out.grown hg5)
  have HZ5 : Hid (w.heap.size + 3 ≤ w5.heap.size) := Lib.hid (by have := hg5.size; have := HZX.out; omega)
  obtain ⟨lb, hlb, hfb⟩ := V.made_parse HN.out htx.alt hrr
  rw [← htx.join] at hlb
  have HPB := Lib.hid (V.parP_some hlb)
  have HFB := Lib.hid hfb
  have hSl : S5.data.toList.length ≤ 1000 := by have := htx.len HN.out; rw [List.length_cons] at this; omega
  clear ht5 hg5 hlb hfb htx hrr
  obtain ⟨s5, rfl⟩ : ∃ s : V.Bs, S5 = ⟨s.toArray⟩ := ⟨S5.data.toList, rfl⟩
  rw [bs_mk] at HPB hSl
  go_wp2_with fail
  refine (rrParse_any n s5 w5 (HM.out.below HI5.out.below) (by unfold maxLen; omega)).mono ?_
  rintro e w6 ⟨u, rfl, hu, how, hb6⟩
  rw [HPB.out] at hu ⊢
  simp only at hu ⊢
  obtain ⟨pb, qb, rfl⟩ := hu.slice
  unfold setV
  have hbX : Below w6.heap.size w6 (w6.alloc (.cells #[.int .i64 n, .slice pb lb.length qb] 25)) := (Below.refl _ _).alloc (Nat.le_refl _) _
  have HI7 := Lib.hid ((HI5.out.later hb6).later hbX)
  have HSA7 := Lib.hid ((HSA5.out.later hb6).later hbX)
  have HSB7 : Hid (SetAt w w6.heap.size n (.slice pb lb.length qb) lb (w6.alloc (.cells #[.int .i64 n, .slice pb lb.length qb] 25))) := Lib.hid (by
    refine ⟨by rw [heap_alloc, if_pos rfl], hu.below hbX, fun c hc => by have := how c hc; have := HZ5.out; omega, by have := hb6.size; have := HZ5.out; omega⟩)
  clear hu how hb6 hbX hSl
  go_wp2_with fail
  generalize w6.alloc (.cells #[.int .i64 n, .slice pb lb.length qb] 25) = w7 at *
  obtain ⟨X2, hX2⟩ : ∃ X2, X2 = w6.heap.size := ⟨_, rfl⟩
  rw [← hX2] at HSB7 ⊢
  clear hX2
  obtain ⟨a0, a1⟩ := set_cells HSA7.out.box
  obtain ⟨b0, b1⟩ := set_cells HSB7.out.box
  have f1 := HSA7.out.far
  have f2 := HSB7.out.far
  have hn1 : ¬ X1 = w.heap.size := by omega
  have hn2 : ¬ X1 = w.heap.size + 1 := by omega
  have hn3 : ¬ X2 = w.heap.size := by omega
  have hn4 : ¬ X2 = w.heap.size + 1 := by omega
  have hn5 : X1 ≠ w.heap.size + 2 := by omega
  have hn6 : X2 ≠ w.heap.size + 2 := by omega
  clear f1 f2
  go_region_held3 (fun W' => W'.cell? ⟨X1, 0, none⟩ = some (.int .i64 n) ∧ W'.cell? ⟨X1, 1, none⟩ = some (.slice pa la.length qa) ∧ W'.cell? ⟨X2, 0, none⟩ = some (.int .i64 n) ∧ W'.cell? ⟨X2, 1, none⟩ = some (.slice pb lb.length qb))
    (first
      | (go_split_ands; exact ⟨cellG hg8 (by assumption) hn5, cellG hg8 (by assumption) hn5, cellG hg8 (by assumption) hn6, cellG hg8 (by assumption) hn6⟩)
      | (exact ⟨a0, a1, b0, b1⟩)
      | (go_split_ands; exact ⟨cellS2 (by assumption) hn1, cellS2 (by assumption) hn1, cellS2 (by assumption) hn3, cellS2 (by assumption) hn3⟩)
      | (go_split_ands; exact ⟨cellS2 (by assumption) hn2, cellS2 (by assumption) hn2, cellS2 (by assumption) hn4, cellS2 (by assumption) hn4⟩)
      | go_keep)
    (first | (go_at_call 39; refine (version_any (w.heap.size + 2) 81 n _ (HI7.out.tape.below (Below.refl _ _).drew) (by omega) HN.out).mono ?_; rintro e w8 ⟨v, hv, rfl, ht8, hg8⟩; have k0 := keepG hg8 (show w7.drew.heap[w.heap.size]? = some _ from HI7.out.r0) (by omega); have k1 := keepG hg8 (show w7.drew.heap[w.heap.size + 1]? = some _ from HI7.out.r1) (by omega); have q0 := Lib.cell_of_heap k0 0; have p0 := Lib.frozen_of_heap k0 0; have q1 := Lib.cell_of_heap k0 1; have p1 := Lib.frozen_of_heap k0 1; have q2 := Lib.cell_of_heap k1 0; have p2 := Lib.frozen_of_heap k1 0; have q3 := Lib.cell_of_heap k1 1; have p3 := Lib.frozen_of_heap k1 1; have hI8 := (HI7.out.later (Below.refl _ _).drew).grown hg8 ht8; have hA8 := (HSA7.out.later (Below.refl _ _).drew).grown hg8; have hB8 := (HSB7.out.later (Below.refl _ _).drew).grown hg8; simp only [List.getElem?_toArray, List.getElem?_cons_zero, List.getElem?_cons_succ] at q0 q1 q2 q3))
  rename_i hS
  have HV := Lib.hid hv
  have HIA := Lib.hid (Itvs.set2 (b := w.heap.size + 1) (x := .int .i64 n) (y := .slice pb lb.length qb) (Itvs.set2 (b := w.heap.size) (x := .int .i64 n) (y := .slice pa la.length qa) hA8.set (fun c hc => by have := hA8.own c hc; omega)) (fun c hc => by have := hA8.own c hc; omega))
  have HIB := Lib.hid (Itvs.set2 (b := w.heap.size + 1) (x := .int .i64 n) (y := .slice pb lb.length qb) (Itvs.set2 (b := w.heap.size) (x := .int .i64 n) (y := .slice pa la.length qa) hB8.set (fun c hc => by have := hB8.own c hc; omega)) (fun c hc => by have := hB8.own c hc; omega))
  have HBZ := Lib.hid (below_set (below_set (below_set (below_set hI8.below w.heap.size 0 (Nat.le_refl _) (.int .i64 n)) w.heap.size 1 (Nat.le_refl _) (.slice pa la.length qa)) (w.heap.size + 1) 0 (Nat.le_succ _) (.int .i64 n)) (w.heap.size + 1) 1 (Nat.le_succ _) (.slice pb lb.length qb))
  clear hS hv hI8 hA8 hB8 k0 k1 ht8 hg8 a0 a1 b0 b1
  go_wp2
  exact bodyPost_ret (v := .tuple #[.agg #[.int .i64 n, .slice pa la.length qa], .agg #[.int .i64 n, .slice pb lb.length qb], .string ⟨v.toArray⟩]) (by simp [results, Tryz.results10, go_sem, q0, q1, q2, q3]) rfl ⟨n, la, lb, v, pa, qa, pb, qb, HN.out, HFA.out, HFB.out, HV.out, rfl, HIA.out, HIB.out, HBZ.out⟩
end Go.Proofs.YtolojkkhmamddaaGreatDoor
namespace Go.Proofs.YtolojkkhmamddaaGreatDoor
open Go.RowKit

/-- block X holds a set of the scheme n with the intervals l -/
structure BoxAt (W : World) (X : Nat) (n : Int) (p : Option Addr) (q : Nat) (l : List V.Itv) : Prop where
  heap : W.heap[X]? = some (.cells #[.int .i64 n, .slice p l.length q] 25 (0, 0))
  set : Itvs W (.slice p l.length q) l
theorem BoxAt.later {W W' : World} {X : Nat} {n : Int} {p : Option Addr} {q : Nat} {l : List V.Itv} (h : BoxAt W X n p q l) (hb : Below W.heap.size W W') : BoxAt W' X n p q l := ⟨keep4 hb h.heap, h.set.below hb⟩
theorem BoxAt.cells {W : World} {X : Nat} {n : Int} {p : Option Addr} {q : Nat} {l : List V.Itv} (h : BoxAt W X n p q l) : W.cell? ⟨X, 0, none⟩ = some (.int .i64 n) ∧ W.cell? ⟨X, 1, none⟩ = some (.slice p l.length q) := set_cells h.heap
theorem few_len {n : Int} {l : List V.Itv} {k : Nat} (h : V.Few n l k) : l.length ≤ maxLen := by have := h.len; unfold maxLen; omega
theorem few_up {n : Int} {l : List V.Itv} {j k : Nat} (h : V.Few n l j) (hk : j ≤ k) : V.Few n l k := ⟨h.ok, Nat.le_trans h.few hk⟩
/-- two sets laid by a call that returns them -/
theorem two_boxes (w : World) (n : Int) (pa pb : Option Addr) (qa qb : Nat) (a b : List V.Itv) (ha : Itvs w (.slice pa a.length qa) a) (hb : Itvs w (.slice pb b.length qb) b) :
    Below w.heap.size w ((w.alloc (.cells #[.int .i64 n, .slice pa a.length qa] 25)).alloc (.cells #[.int .i64 n, .slice pb b.length qb] 25)) ∧
    BoxAt ((w.alloc (.cells #[.int .i64 n, .slice pa a.length qa] 25)).alloc (.cells #[.int .i64 n, .slice pb b.length qb] 25)) w.heap.size n pa qa a ∧
    BoxAt ((w.alloc (.cells #[.int .i64 n, .slice pa a.length qa] 25)).alloc (.cells #[.int .i64 n, .slice pb b.length qb] 25)) (w.heap.size + 1) n pb qb b := by
  have h : Below w.heap.size w ((w.alloc (.cells #[.int .i64 n, .slice pa a.length qa] 25)).alloc (.cells #[.int .i64 n, .slice pb b.length qb] 25)) := ((Below.refl _ _).alloc (Nat.le_refl _) _).alloc (by simp) _
  exact ⟨h, ⟨by rw [heap_alloc, if_neg (by simp), heap_alloc, if_pos rfl], ha.below h⟩, ⟨by rw [heap_alloc, if_pos (by simp)], hb.below h⟩⟩
end Go.Proofs.YtolojkkhmamddaaGreatDoor
