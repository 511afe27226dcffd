/-
  Lemmas for the law.
-/
import Derived.Test.YtnhfaincdabdkaaGreatDoorC32x03
set_option linter.all false
set_option maxRecDepth 100000
set_option maxHeartbeats 2000000
namespace Go.Proofs.YtnhfaincdabdkaaGreatDoor
open Go.RowKit Go.Shelf
attribute [local go_sem] Oper.semAt_some
theorem zqk (s : ByteArray) (w : World) (hs : s.size ≤ maxLen) :
  CallsIn Fence.wide 6 Tryz.prog 295 #[.agg #[], .string s] w fun e w' => e = .returned (.bool (V.zev s.data.toList)) /\ Below w.heap.size w w' := by
 refine callsIn_of_wp_marks Tryz.func295 rfl trivial ?_ rfl
 simp only [Tryz.ntmps295, List.size_toArray, List.length_cons, List.length_nil, Nat.reduceAdd, Nat.reduceSub, Array.replicate_succ, Array.replicate_zero, List.push_toArray, List.append_toArray, List.nil_append, List.cons_append]
 gi_wp2_with fail
 refine ⟨trivial, (callsIn_wide.2 (zfs _ _ _)).mono ?_⟩
 rintro e w' ⟨rfl, rfl⟩
 gi_wp2
 have hPcs : Hid ((pcs 46 s).all (fun x => V.numb x.data.toList false) = V.zev s.data.toList) := zuq (by
   unfold pcs V.zev; rw [List.all_map]; congr 1)
 obtain ⟨W0, hW0⟩ : ∃ W0, (((((w.alloc (.cells #[] 192)).alloc (.cells #[.bool false] 4)).alloc (.cells #[.string s] 9)).alloc (.cells #[.string ⟨#[46]⟩] 9)).alloc (.cells #[.int .i64 0] 3)) = W0 := ⟨_, rfl⟩
 rw [hW0]
 have hsz : W0.heap.size = w.heap.size + 5 := by rw [← hW0]; simp
 have hB0 : Below w.heap.size w W0 := by
  exact zxs
 have c1 : W0.cell? ⟨w.heap.size + 1, 0, none⟩ = some (.bool false) := by
  exact zvc
 have f1 : W0.frozen? ⟨w.heap.size + 1, 0, none⟩ = false := by
  exact zv4
 have c2 : W0.cell? ⟨w.heap.size + 1 + 1, 0, none⟩ = some (.string s) := by
  exact zvc
 have f2 : W0.frozen? ⟨w.heap.size + 1 + 1, 0, none⟩ = false := by
  exact zv4
 have c3 : W0.cell? ⟨w.heap.size + 1 + 1 + 1, 0, none⟩ = some (.string ⟨#[46]⟩) := by
  exact zvc
 have c4 : W0.cell? ⟨w.heap.size + 1 + 1 + 2, 0, none⟩ = some (.int .i64 0) := by
  exact zvc
 clear hW0
 refine zb5 (b := w.heap.size + 1 + 1) rfl (by omega) (gf := 276)
  (lb := #[.pointer (some ⟨w.heap.size + 1 + 1 + 1, 0, none⟩), .pointer (some ⟨w.heap.size + 1 + 1, 0, none⟩), .pointer (some ⟨w.heap.size + 1 + 1 + 2, 0, none⟩)])
  rfl trivial (enters_of Tryz.func276 (by kernel_rfl) rfl) (by omega)
  (zes 5 (by omega) (w.heap.size + 1 + 1) 46 s hs W0 (by omega) c2 f2 c3 c4) belowK_t (belowK_b (by omega)) (fun _ => rfl)
  (I := fun pre W => (W.cell? ⟨w.heap.size + 1, 0, none⟩ = some (.bool false) /\ W.frozen? ⟨w.heap.size + 1, 0, none⟩ = false /\ pre.all (fun x => V.numb x.data.toList false) = true) /\ Below w.heap.size w W)
  (Ix := fun c pre W => (c = .ret /\ W.cell? ⟨w.heap.size + 1, 0, none⟩ = some (.bool false) /\ pre.all (fun x => V.numb x.data.toList false) = false) /\ Below w.heap.size w W)
  (act := fun x => { tmps := #[.agg #[], .string s, .pointer (some ⟨w.heap.size, 0, none⟩), undef, .pointer (some ⟨w.heap.size + 1, 0, none⟩), .string x, .string s,
        .func (.func 276) #[] #[.pointer (some ⟨w.heap.size + 1 + 1 + 1, 0, none⟩), .pointer (some ⟨w.heap.size + 1 + 1, 0, none⟩), .pointer (some ⟨w.heap.size + 1 + 1 + 2, 0, none⟩)],
        .string x, undef, undef, undef], defers := [] })
  ⟨(OwnFrom.and (Own.from (fun s A B row hs hg hr => ⟨cell_kept hs.1 hg hr, (frozen_kept hs.1 hg hr).trans hs.2.1, hs.2.2⟩) _) (ownFrom_below (zus _) (by omega))),
   (fun c => OwnFrom.and (Own.from (fun s A B row hs hg hr => ⟨hs.1, cell_kept hs.2.1 hg hr, hs.2.2⟩) _) (ownFrom_below (zus _) (by omega))),
   (fun s A v hs => ⟨⟨by rw [World.cell?_setCell_other _ _ _ _ (by simp)]; exact hs.1.1, by rw [World.frozen?_setCell]; exact hs.1.2.1, hs.1.2.2⟩, hs.2.setCell (by show w.heap.size ≤ w.heap.size + 1 + 1; omega) _⟩), ?assign, ?body⟩ ⟨⟨c1, f1, rfl⟩, hB0⟩ ?done ?stop
 case assign =>
  intro l x W K hK
  gi_wp2
  exact hK
 case body =>
  rintro l pre x W ⟨⟨hc1, hf1, hall⟩, hB⟩ hx
  have HA := zuq hall
  clear hall
  rcases hn : V.numb x.data.toList false with _ | _
  all_goals
   have HN := zuq hn
   clear hn
   gi_wp2_with fail
   refine ⟨trivial, (CallsIn.inRound l (callsIn_wide.2 (ud x false _ hx))).mono ?_⟩
   rintro e w' ⟨rfl, rfl⟩
   simp only [HN.out]
   gi_wp2
  ·exact ⟨KeepsOthers.setCell _ _ _, ⟨rfl, World.cell?_setCell_same' _ _ _ (by rw [hc1]; rfl), by rw [List.all_append, HA.out]; simp [HN.out]⟩, hB.setCell (p := ⟨w.heap.size + 1, 0, none⟩) (by show w.heap.size ≤ w.heap.size + 1; omega) _⟩
  ·exact ⟨KeepsOthers.refl _, zut _ _, ⟨hc1, hf1, by rw [List.all_append, HA.out]; simp [HN.out]⟩, hB⟩
 case done =>
  rintro D ys W hD rfl ⟨⟨hc1, hf1, hall⟩, hB⟩ hK
  have HR : Hid (V.zev s.data.toList = true) := zuq (by rw [← hPcs.out]; exact hall)
  clear hall
  gi_wp2
  have hK' := (KeepsOthers.setCell W ⟨w.heap.size + 1, 0, none⟩ (.bool true)).same D _ hK rfl
  refine ⟨by simp, .inl ⟨_, _, rfl, run_takeDeferred hK', ?_⟩⟩
  have hc5 := cell_kept (World.cell?_setCell_same' W ⟨w.heap.size + 1, 0, none⟩ (.bool true) (by rw [hc1]; rfl)) (grownBy_putObj' _ D (.deferred none)) (fun r e => by cases e; exact ⟨_, hK', rfl⟩)
  refine ⟨.bool true, ?_, by rw [HR.out], (hB.setCell (p := ⟨w.heap.size + 1, 0, none⟩) (by show w.heap.size ≤ w.heap.size + 1; omega) _).trans (belowK_b (w := w) (zus _) _ D _ _ (by omega) hK' rfl rfl)⟩
  simp [results, Tryz.f295, go_sem, hc5]
 case stop =>
  rintro D c pre W hD hpre ⟨⟨rfl, hc1, hall⟩, hB⟩ hK
  have HR : Hid (V.zev s.data.toList = false) := zuq (by
    rw [← hPcs.out]
    obtain ⟨r, hr⟩ := hpre
    rw [← hr, List.all_append, hall]; rfl)
  clear hall
  gi_wp2
  refine ⟨by simp, .inl ⟨_, _, rfl, run_takeDeferred hK, ?_⟩⟩
  have hc5 := cell_kept hc1 (grownBy_putObj' _ D (.deferred none)) (fun r e => by cases e; exact ⟨_, hK, rfl⟩)
  refine ⟨.bool false, ?_, by rw [HR.out], hB.trans (belowK_b (w := w) (zus _) _ D _ _ (by omega) hK rfl rfl)⟩
  simp [results, Tryz.f295, go_sem, hc5]
theorem zn4 (s : ByteArray) (w : World) (hs : s.size ≤ maxLen) :
  Calls Tryz.prog 295 #[.agg #[], .string s] w fun e w' => e = .returned (.bool (V.zev s.data.toList)) /\ Below w.heap.size w w' :=
 callsIn_wide.1 (zqk s w hs)
end Go.Proofs.YtnhfaincdabdkaaGreatDoor
