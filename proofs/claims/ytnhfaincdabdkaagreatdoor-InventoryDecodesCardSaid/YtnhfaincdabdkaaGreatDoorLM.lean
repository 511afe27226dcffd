/-
  Walk: inventory.read. (Printed by gen_LM.py.)
-/
import Derived.Test.YtnhfaincdabdkaaGreatDoorLL
namespace Go.Proofs.YtnhfaincdabdkaaGreatDoor
open Go.RowKit

set_option maxRecDepth 100000 in
set_option maxHeartbeats 6400000 in
theorem invRead_any (v : Value) (l : List V.Bs) (w : World) (hv : Strs w v l) (hw : ∀ x ∈ l, x.length ≤ maxLen) :
    Calls Tryz.prog 47 #[v] w (ReadPost l w) := by
  have hb0 : Below w.heap.size w (w.alloc (.cells #[.int .i64 0, .int .i64 0, .string ⟨#[]⟩, .string ⟨#[]⟩, Value.int .u8 0, Value.int .u8 0, Value.int .u8 0, Value.int .u8 0, Value.int .u8 0, Value.int .u8 0, Value.int .u8 0, Value.int .u8 0, Value.int .u8 0, Value.int .u8 0, Value.int .u8 0, Value.int .u8 0, Value.int .u8 0, Value.int .u8 0, Value.int .u8 0, Value.int .u8 0, Value.int .u8 0, Value.int .u8 0, Value.int .u8 0, Value.int .u8 0, Value.int .u8 0, Value.int .u8 0, Value.int .u8 0, Value.int .u8 0, Value.int .u8 0, Value.int .u8 0, Value.int .u8 0, Value.int .u8 0, Value.int .u8 0, Value.int .u8 0, Value.int .u8 0, Value.int .u8 0] 88)) := (Below.refl _ w).alloc (Nat.le_refl _) _
  have hg0 : (w.alloc (.cells #[.int .i64 0, .int .i64 0, .string ⟨#[]⟩, .string ⟨#[]⟩, Value.int .u8 0, Value.int .u8 0, Value.int .u8 0, Value.int .u8 0, Value.int .u8 0, Value.int .u8 0, Value.int .u8 0, Value.int .u8 0, Value.int .u8 0, Value.int .u8 0, Value.int .u8 0, Value.int .u8 0, Value.int .u8 0, Value.int .u8 0, Value.int .u8 0, Value.int .u8 0, Value.int .u8 0, Value.int .u8 0, Value.int .u8 0, Value.int .u8 0, Value.int .u8 0, Value.int .u8 0, Value.int .u8 0, Value.int .u8 0, Value.int .u8 0, Value.int .u8 0, Value.int .u8 0, Value.int .u8 0, Value.int .u8 0, Value.int .u8 0, Value.int .u8 0, Value.int .u8 0] 88)).heap[w.heap.size]? = some (.cells #[.int .i64 0, .int .i64 0, .string ⟨#[]⟩, .string ⟨#[]⟩, Value.int .u8 0, Value.int .u8 0, Value.int .u8 0, Value.int .u8 0, Value.int .u8 0, Value.int .u8 0, Value.int .u8 0, Value.int .u8 0, Value.int .u8 0, Value.int .u8 0, Value.int .u8 0, Value.int .u8 0, Value.int .u8 0, Value.int .u8 0, Value.int .u8 0, Value.int .u8 0, Value.int .u8 0, Value.int .u8 0, Value.int .u8 0, Value.int .u8 0, Value.int .u8 0, Value.int .u8 0, Value.int .u8 0, Value.int .u8 0, Value.int .u8 0, Value.int .u8 0, Value.int .u8 0, Value.int .u8 0, Value.int .u8 0, Value.int .u8 0, Value.int .u8 0, Value.int .u8 0] 88 (0, 0)) := heap_alloc_new w _
  have HB0 := Lib.hid hb0
  have HG0 := Lib.hid hg0
  clear hg0
  by_cases h6 : l.length = 6
  · obtain ⟨a, p, s, n, x, g, rfl⟩ := six_words h6
    obtain ⟨b, off, cap, rfl, hblt, c0, c1, c2, c3, c4, c5⟩ := strs_at6 hv
    have x0 := cell_keep hb0 c0
    have x1 := cell_keep hb0 c1
    have hpl : (⟨p.toArray⟩ : ByteArray).size ≤ maxLen := by rw [sz_arr]; exact hw p (by simp)
    have hgl : (⟨g.toArray⟩ : ByteArray).size ≤ maxLen := by rw [sz_arr]; exact hw g (by simp)
    have hnl : n.length ≤ maxLen := hw n (by simp)
    have hxl : x.length ≤ maxLen := hw x (by simp)
    have HY := Lib.hid (And.intro (cell_keep hb0 c2) (And.intro (cell_keep hb0 c3) (And.intro (cell_keep hb0 c4) (cell_keep hb0 c5))))
    have HP := Lib.hid hpl
    have HGL := Lib.hid hgl
    have HNX := Lib.hid (And.intro hnl hxl)
    clear hw hv hb0 h6 c0 c1 c2 c3 c4 c5 hpl hgl hnl hxl
    by_cases ha : a = V.compW
    · subst ha
      have hcw : (⟨V.compW.toArray⟩ : ByteArray) = ⟨#[99, 111, 109, 112, 111, 110, 101, 110, 116]⟩ := rfl
      rw [hcw] at x0
      have HRP : Hid (ReadPost [V.compW, p, s, n, x, g] w = fun e w' => e = .returned (.tuple #[cval ⟨(V.numP p).1 - 1, V.schNum s, n, x, V.d32 (V.parD g)⟩, .bool (((V.numP p).2 && (decide (g = []) || ((V.parD g).isSome && decide (¬ V.d32 (V.parD g) = V.zeroDig)))) && decide (¬ V.schNum s = 0))]) ∧ Below w.heap.size w w') := Lib.hid rfl
      have HDL : Hid ((V.d32 (V.parD g)).length = 32 ∧ ∀ n ∈ V.d32 (V.parD g), (Lit.int .u8 n).wf = true) := Lib.hid ⟨V.d32_len g, V.d32_wf _⟩
      have HDN : Hid (g = [] → V.d32 (V.parD g) = V.zeroDig) := Lib.hid (fun e => by rw [e]; rfl)
      have hnr := V.numP_rng p
      have hsr := V.schNum_rng s
      go_enter Tryz.func47, Tryz.ntmps47
      go_wp2_with fail
      refine (docParseNumber_any ⟨p.toArray⟩ _ HP.out).mono ?_
      rintro e w4 ⟨rfl, hw4⟩
      rw [bs_arr, zero_cells] at *
      have HZ4 : Hid (w4.heap.size = w.heap.size + 1) := Lib.hid (by rw [hw4]; simp)
      rw [← hw4] at HB0 HG0 HY x0 x1
      clear hw4
      have HNN : Hid (∀ w, Calls Tryz.prog 95 #[.string ⟨s.toArray⟩] w fun e w' => e = .returned (.int .i64 (V.schNum s)) ∧ w' = w) := Lib.hid (fun w => by have := schNum_any ⟨s.toArray⟩ w; rw [bs_arr] at this; exact this)
      generalize (V.numP p).1 = nn at *
      generalize (V.numP p).2 = okn at *
      generalize V.schNum s = sn at *
      have HC0 : Hid (CompWf ⟨nn - 1, sn, n, x, V.zeroDig⟩) := Lib.hid ⟨by simp [Lit.wf, IntKind.min, IntKind.max, IntKind.signed, IntKind.bits]; omega, by simp [Lit.wf, IntKind.min, IntKind.max, IntKind.signed, IntKind.bits]; omega, HNX.out.1, HNX.out.2, (by decide : V.zeroDig.length = 32), (by decide : ∀ n ∈ V.zeroDig, (Lit.int .u8 n).wf = true)⟩
      have y2 := HY.out.1
      have y3 := HY.out.2.1
      have y4 := HY.out.2.2.1
      have y5 := HY.out.2.2.2
      have wr1 : IntKind.i64.wrap (nn - 1) = nn - 1 := IntWalk.i64_in _ (by omega)
      go_wp2_with fail
      refine wp_region_held_drew (S := (fun W' => W'.cell? ⟨b, off + 2, none⟩ = some (.string ⟨s.toArray⟩) ∧ W'.cell? ⟨b, off + 3, none⟩ = some (.string ⟨n.toArray⟩) ∧ W'.cell? ⟨b, off + 4, none⟩ = some (.string ⟨x.toArray⟩))) (by kernel_rfl) (by (try dsimp only); exact ⟨cell_keep (Below.refl _ w4).drew y2, cell_keep (Below.refl _ w4).drew y3, cell_keep (Below.refl _ w4).drew y4⟩) (fun hHeld => ?_)
      refine wpAnyH_take (i := 0) (v := ?_) rfl (by kernel_rfl) (by kernel_rfl) (by kernel_rfl) (fun _ _ _ h => h) (Or.inl ⟨by rfl, ?_⟩) (by assumption) ?_
      rotate_left
      · (intro w' hSw; (try dsimp only at hSw); go_simp; try with_reducible rfl)
      try simp only [List.getElem_toArray, List.getElem_cons_zero, Act.put, List.setIfInBounds_toArray, List.set_cons_succ, List.set_cons_zero]
      refine wpAnyH_take (i := 1) (v := (.int .i64 (nn - 1))) rfl (by kernel_rfl) (by kernel_rfl) (by kernel_rfl) (fun _ _ _ h => h) (Or.inl ⟨by rfl, fun w' hSw => by go_simp; try rfl⟩) (by assumption) ?_
      try simp only [List.getElem_toArray, List.getElem_cons_succ, List.getElem_cons_zero, Act.put, List.setIfInBounds_toArray, List.set_cons_succ, List.set_cons_zero]
      refine wpAnyH_take (i := 2) (v := ?_) rfl (by kernel_rfl) (by kernel_rfl) (by kernel_rfl) (fun _ _ _ h => h) (Or.inl ⟨by rfl, ?_⟩) (by assumption) ?_
      rotate_left
      · (intro w' hSw; (try dsimp only at hSw); go_simp; try with_reducible rfl)
      try simp only [List.getElem_toArray, List.getElem_cons_succ, List.getElem_cons_zero, Act.put, List.setIfInBounds_toArray, List.set_cons_succ, List.set_cons_zero]
      refine wpAnyH_take (i := 3) (v := ?_) rfl (by kernel_rfl) (by kernel_rfl) (by kernel_rfl) (fun _ _ _ h => h) (Or.inl ⟨by rfl, ?_⟩) (by assumption) ?_
      rotate_left
      · (intro w' hSw; (try dsimp only at hSw); go_simp; try with_reducible rfl)
      try simp only [List.getElem_toArray, List.getElem_cons_succ, List.getElem_cons_zero, Act.put, List.setIfInBounds_toArray, List.set_cons_succ, List.set_cons_zero]
      refine wpAnyH_take (i := 4) (v := ?_) rfl (by kernel_rfl) (by kernel_rfl) (by kernel_rfl) (fun _ _ _ h => h) (Or.inl ⟨by rfl, ?_⟩) (by assumption) ?_
      rotate_left
      · (intro w' hSw; (try dsimp only at hSw); go_simp; try with_reducible rfl)
      try simp only [List.getElem_toArray, List.getElem_cons_succ, List.getElem_cons_zero, Act.put, List.setIfInBounds_toArray, List.set_cons_succ, List.set_cons_zero]
      refine wpAnyH_take (i := 6) (v := ?_) rfl (by kernel_rfl) (by kernel_rfl) (by kernel_rfl) (fun _ _ _ h => h) (Or.inl ⟨by rfl, ?_⟩) (by assumption) ?_
      rotate_left
      · (intro w' hSw; (try dsimp only at hSw); go_simp; try with_reducible rfl)
      try simp only [List.getElem_toArray, List.getElem_cons_succ, List.getElem_cons_zero, Act.put, List.setIfInBounds_toArray, List.set_cons_succ, List.set_cons_zero]
      refine wpAnyH_take (i := 7) (v := ?_) rfl (by kernel_rfl) (by kernel_rfl) (by kernel_rfl) (fun _ _ _ h => h) (Or.inl ⟨by rfl, ?_⟩) (by assumption) ?_
      rotate_left
      · (intro w' hSw; (try dsimp only at hSw); go_simp; try with_reducible rfl)
      try simp only [List.getElem_toArray, List.getElem_cons_succ, List.getElem_cons_zero, Act.put, List.setIfInBounds_toArray, List.set_cons_succ, List.set_cons_zero]
      refine wpAnyH_take (i := 8) (v := ?_) rfl (by kernel_rfl) (by kernel_rfl) (by kernel_rfl) (fun _ _ _ h => h) (Or.inl ⟨by rfl, ?_⟩) (by assumption) ?_
      rotate_left
      · (intro w' hSw; (try dsimp only at hSw); go_simp; try with_reducible rfl)
      try simp only [List.getElem_toArray, List.getElem_cons_succ, List.getElem_cons_zero, Act.put, List.setIfInBounds_toArray, List.set_cons_succ, List.set_cons_zero]
      refine wpAnyH_take (i := 9) (v := ?_) rfl (by kernel_rfl) (by kernel_rfl) (by kernel_rfl) (fun _ _ _ h => h) (Or.inl ⟨by rfl, ?_⟩) (by assumption) ?_
      rotate_left
      · (intro w' hSw; (try dsimp only at hSw); go_simp; try with_reducible rfl)
      try simp only [List.getElem_toArray, List.getElem_cons_succ, List.getElem_cons_zero, Act.put, List.setIfInBounds_toArray, List.set_cons_succ, List.set_cons_zero]
      refine wpAnyH_take (i := 10) (v := ?_) rfl (by kernel_rfl) (by kernel_rfl) (by kernel_rfl) (fun _ _ _ h => h) (Or.inl ⟨by rfl, ?_⟩) (by assumption) ?_
      rotate_left
      · (intro w' hSw; (try dsimp only at hSw); go_simp; try with_reducible rfl)
      try simp only [List.getElem_toArray, List.getElem_cons_succ, List.getElem_cons_zero, Act.put, List.setIfInBounds_toArray, List.set_cons_succ, List.set_cons_zero]
      refine wpAnyH_take (i := 11) (v := ?_) rfl (by kernel_rfl) (by kernel_rfl) (by kernel_rfl) (fun _ _ _ h => h) (Or.inl ⟨by rfl, ?_⟩) (by assumption) ?_
      rotate_left
      · (intro w' hSw; (try dsimp only at hSw); go_simp; try with_reducible rfl)
      try simp only [List.getElem_toArray, List.getElem_cons_succ, List.getElem_cons_zero, Act.put, List.setIfInBounds_toArray, List.set_cons_succ, List.set_cons_zero]
      refine wpAnyH_ready (rs := [5, 13]) (by kernel_rfl) (by simp) ?_
      refine (AllReadyH.cons (o := _) rfl (fun K hK => ?g1) (AllReadyH.cons (o := _) rfl (fun K hK => ?g2) AllReadyH.nil))
      case' g1 =>
        refine step_quiet rfl 95 #[.string ⟨s.toArray⟩] (.int .i64 sn) (by go_simp) (HNN.out _) ?_
        refine hK.out _ _ ?_ (fun hHeld => ?_)
        · (try dsimp only); exact hHeld
        clear hK K
        try simp only [List.getElem_toArray, List.getElem_cons_succ, List.getElem_cons_zero, Act.put, List.setIfInBounds_toArray, List.set_cons_succ, List.set_cons_zero]
        refine wpAnyH_take (i := 12) (v := (.agg (ccells ⟨nn - 1, sn, n, x, V.zeroDig⟩))) rfl (by kernel_rfl) (by kernel_rfl) (by kernel_rfl) (fun _ _ _ h => h) (Or.inl ⟨by rfl, fun w' hSw => by refine ex_build (parts := #[(0, .tmp 26), (1, .tmp 30), (2, .tmp 33), (3, .tmp 36)]) rfl ?_; simp only [List.map_toArray, List.map_cons, List.map_nil]; exact built_comp0 _ _ _ _⟩) (by assumption) ?_
        try simp only [List.getElem_toArray, List.getElem_cons_succ, List.getElem_cons_zero, Act.put, List.setIfInBounds_toArray, List.set_cons_succ, List.set_cons_zero]
        refine wpAnyH_ready (rs := [13]) (by kernel_rfl) (by simp) ?_
        refine AllReadyH.cons (o := _) rfl (fun K hK => ?_) AllReadyH.nil
        refine step_alloc rfl rfl ?_
        refine hK.out _ _ ?_ (fun hHeld => ?_)
        · (try dsimp only); exact ⟨cell_keep ((Below.refl _ _).alloc (Nat.le_refl _) _) hHeld.1, cell_keep ((Below.refl _ _).alloc (Nat.le_refl _) _) hHeld.2.1, cell_keep ((Below.refl _ _).alloc (Nat.le_refl _) _) hHeld.2.2⟩
        clear hK K
        try simp only [List.getElem_toArray, List.getElem_cons_succ, List.getElem_cons_zero, Act.put, List.setIfInBounds_toArray, List.set_cons_succ, List.set_cons_zero]
        refine wpAnyH_ready (rs := [14]) (by kernel_rfl) (by simp) ?_
        refine AllReadyH.cons (o := _) rfl (fun K hK => ?_) AllReadyH.nil
        refine step_store rfl (.tmp 6) (.tmp 37) rfl (ccells zeroC) 88 rfl ⟨nn - 1, sn, n, x, V.zeroDig⟩ HC0.out rfl zeroC_wf.size ?_
        refine hK.out _ _ ?_ (fun hHeld => ?_)
        · (try dsimp only); exact ⟨cell_keep (((Below.refl _ w4).drew).alloc (Nat.le_refl _) _) y2, cell_keep (((Below.refl _ w4).drew).alloc (Nat.le_refl _) _) y3, cell_keep (((Below.refl _ w4).drew).alloc (Nat.le_refl _) _) y4⟩
        clear hK K
        try simp only [List.getElem_toArray, List.getElem_cons_succ, List.getElem_cons_zero, Act.put]
        refine wpAnyH_done (by kernel_rfl) ?_ _
      case' g2 =>
        refine step_alloc rfl rfl ?_
        refine hK.out _ _ ?_ (fun hHeld => ?_)
        · (try dsimp only); exact ⟨cell_keep ((Below.refl _ _).alloc (Nat.le_refl _) _) hHeld.1, cell_keep ((Below.refl _ _).alloc (Nat.le_refl _) _) hHeld.2.1, cell_keep ((Below.refl _ _).alloc (Nat.le_refl _) _) hHeld.2.2⟩
        clear hK K
        try simp only [List.getElem_toArray, List.getElem_cons_succ, List.getElem_cons_zero, Act.put, List.setIfInBounds_toArray, List.set_cons_succ, List.set_cons_zero]
        refine wpAnyH_ready (rs := [5]) (by kernel_rfl) (by simp) ?_
        refine AllReadyH.cons (o := _) rfl (fun K hK => ?_) AllReadyH.nil
        refine step_quiet rfl 95 #[.string ⟨s.toArray⟩] (.int .i64 sn) (by go_simp) (HNN.out _) ?_
        refine hK.out _ _ ?_ (fun hHeld => ?_)
        · (try dsimp only); exact hHeld
        clear hK K
        try simp only [List.getElem_toArray, List.getElem_cons_succ, List.getElem_cons_zero, Act.put, List.setIfInBounds_toArray, List.set_cons_succ, List.set_cons_zero]
        refine wpAnyH_take (i := 12) (v := (.agg (ccells ⟨nn - 1, sn, n, x, V.zeroDig⟩))) rfl (by kernel_rfl) (by kernel_rfl) (by kernel_rfl) (fun _ _ _ h => h) (Or.inl ⟨by rfl, fun w' hSw => by refine ex_build (parts := #[(0, .tmp 26), (1, .tmp 30), (2, .tmp 33), (3, .tmp 36)]) rfl ?_; simp only [List.map_toArray, List.map_cons, List.map_nil]; exact built_comp0 _ _ _ _⟩) (by assumption) ?_
        try simp only [List.getElem_toArray, List.getElem_cons_succ, List.getElem_cons_zero, Act.put, List.setIfInBounds_toArray, List.set_cons_succ, List.set_cons_zero]
        refine wpAnyH_ready (rs := [14]) (by kernel_rfl) (by simp) ?_
        refine AllReadyH.cons (o := _) rfl (fun K hK => ?_) AllReadyH.nil
        refine step_store rfl (.tmp 6) (.tmp 37) rfl (ccells zeroC) 88 rfl ⟨nn - 1, sn, n, x, V.zeroDig⟩ HC0.out rfl zeroC_wf.size ?_
        refine hK.out _ _ ?_ (fun hHeld => ?_)
        · (try dsimp only); exact ⟨cell_keep (((Below.refl _ w4).drew).alloc (Nat.le_refl _) _) y2, cell_keep (((Below.refl _ w4).drew).alloc (Nat.le_refl _) _) y3, cell_keep (((Below.refl _ w4).drew).alloc (Nat.le_refl _) _) y4⟩
        clear hK K
        try simp only [List.getElem_toArray, List.getElem_cons_succ, List.getElem_cons_zero, Act.put]
        refine wpAnyH_done (by kernel_rfl) ?_ _
      all_goals
        change Exit.then _ _ _ _ (w4.drew.alloc (.cells (ccells ⟨nn - 1, sn, n, x, V.zeroDig⟩) 88))
        have hz4 := HZ4.out
        have hb5 : Below w4.heap.size w4 (w4.drew.alloc (.cells (ccells ⟨nn - 1, sn, n, x, V.zeroDig⟩) 88)) := ((Below.refl _ w4).drew).alloc (Nat.le_refl _) _
        have hg5 : (w4.drew.alloc (.cells (ccells ⟨nn - 1, sn, n, x, V.zeroDig⟩) 88)).heap[w4.heap.size]? = some (.cells (ccells ⟨nn - 1, sn, n, x, V.zeroDig⟩) 88 (0, 0)) := heap_alloc_new w4.drew _
        have hr5 : (w4.drew.alloc (.cells (ccells ⟨nn - 1, sn, n, x, V.zeroDig⟩) 88)).heap[w.heap.size]? = some (.cells (ccells zeroC) 88 (0, 0)) := (hb5.block _ (by omega)).trans HG0.out
        have x5 := cell_keep hb5 y5
        have hs5 : (w4.drew.alloc (.cells (ccells ⟨nn - 1, sn, n, x, V.zeroDig⟩) 88)).heap.size = w4.heap.size + 1 := by simp
        generalize w4.drew.alloc (.cells (ccells ⟨nn - 1, sn, n, x, V.zeroDig⟩) 88) = w5 at *
        have HB5 := Lib.hid (HB0.out.trans (hb5.mono (by omega)))
        have HG5 := Lib.hid hg5
        have HR5 := Lib.hid hr5
        have HNE : Hid (w4.heap.size ≠ w.heap.size) := Lib.hid (by omega)
        have HLT : Hid (w.heap.size ≤ w4.heap.size ∧ w4.heap.size < w5.heap.size ∧ w.heap.size < w5.heap.size) := Lib.hid ⟨by omega, by omega, by omega⟩
        clear hb5 hg5 hr5 hHeld HY HB0 HG0 HNN y2 y3 y4 y5 wr1 x0 x1 hz4 HZ4 hs5
        try clear hK K
        simp only [show w4.drew.heap.size = w4.heap.size from rfl]
        generalize w4.heap.size = gC at *
        by_cases hgg : g = []
        · subst hgg
          have hdz := HDN.out rfl
          clear HDN
          have HFIN : Hid (ReadPost [V.compW, p, s, n, x, []] w = fun e w' => e = .returned (.tuple #[cval ⟨nn - 1, sn, n, x, V.zeroDig⟩, .bool (okn && (!decide (sn = 0)))]) ∧ Below w.heap.size w w') := Lib.hid (by rw [HRP.out, hdz]; simp)
          clear HRP hdz
          rw [HFIN.out]
          rcases okn with _ | _
          · go_wp2_with fail
            refine wp_region_held_drew (S := (fun W' => W'.rangeAt gC 0 (cellsL ⟨nn - 1, sn, n, x, V.zeroDig⟩))) (by kernel_rfl) (by (try dsimp only); exact rangeAt_below (range_row HG5.out) (Below.refl _ w5).drew) (fun hHeld => ?_)
            refine wpAnyH_take (i := 0) (v := (.agg (ccells ⟨nn - 1, sn, n, x, V.zeroDig⟩))) rfl (by kernel_rfl) (by kernel_rfl) (by kernel_rfl) (fun _ _ _ h => h) (Or.inl ⟨by rfl, fun w' hSw => ex_load rfl rfl (load_comp HC0.out hSw)⟩) (by assumption) ?_
            try simp only [List.getElem_toArray, List.getElem_cons_zero, Act.put, List.setIfInBounds_toArray, List.set_cons_succ, List.set_cons_zero]
            refine wpAnyH_take (i := 1) (v := ?_) rfl (by kernel_rfl) (by kernel_rfl) (by kernel_rfl) (fun _ _ _ h => h) (Or.inl ⟨by rfl, ?_⟩) (by assumption) ?_
            rotate_left
            · (intro w' hSw; (try dsimp only at hSw); go_simp; try with_reducible rfl)
            try simp only [List.getElem_toArray, List.getElem_cons_succ, List.getElem_cons_zero, Act.put, List.setIfInBounds_toArray, List.set_cons_succ, List.set_cons_zero]
            refine wpAnyH_take (i := 2) (v := ?_) rfl (by kernel_rfl) (by kernel_rfl) (by kernel_rfl) (fun _ _ _ h => h) (Or.inl ⟨by rfl, ?_⟩) (by assumption) ?_
            rotate_left
            · (intro w' hSw; (try dsimp only at hSw); go_simp; try with_reducible rfl)
            try simp only [List.getElem_toArray, List.getElem_cons_succ, List.getElem_cons_zero, Act.put, List.setIfInBounds_toArray, List.set_cons_succ, List.set_cons_zero]
            refine wpAnyH_take (i := 3) (v := undef) rfl (by kernel_rfl) (by kernel_rfl) (by kernel_rfl) (fun _ _ _ h => h) (Or.inr ⟨by rfl, rfl⟩) (by assumption) ?_
            try simp only [List.getElem_toArray, List.getElem_cons_succ, List.getElem_cons_zero, Act.put, List.setIfInBounds_toArray, List.set_cons_succ, List.set_cons_zero]
            refine wpAnyH_take (i := 4) (v := undef) rfl (by kernel_rfl) (by kernel_rfl) (by kernel_rfl) (fun _ _ _ h => h) (Or.inr ⟨by rfl, rfl⟩) (by assumption) ?_
            try simp only [List.getElem_toArray, List.getElem_cons_succ, List.getElem_cons_zero, Act.put, List.setIfInBounds_toArray, List.set_cons_succ, List.set_cons_zero]
            refine wpAnyH_take (i := 5) (v := undef) rfl (by kernel_rfl) (by kernel_rfl) (by kernel_rfl) (fun _ _ _ h => h) (Or.inr ⟨by rfl, rfl⟩) (by assumption) ?_
            try simp only [List.getElem_toArray, List.getElem_cons_succ, List.getElem_cons_zero, Act.put, List.setIfInBounds_toArray, List.set_cons_succ, List.set_cons_zero]
            refine wpAnyH_take (i := 6) (v := ?_) rfl (by kernel_rfl) (by kernel_rfl) (by kernel_rfl) (fun _ _ _ h => h) (Or.inl ⟨by rfl, ?_⟩) (by assumption) ?_
            rotate_left
            · (intro w' hSw; (try dsimp only at hSw); go_simp; try with_reducible rfl)
            try simp only [List.getElem_toArray, List.getElem_cons_succ, List.getElem_cons_zero, Act.put, List.setIfInBounds_toArray, List.set_cons_succ, List.set_cons_zero]
            refine wpAnyH_ready (rs := [7]) (by kernel_rfl) (by simp) ?_
            refine AllReadyH.cons (o := _) rfl (fun K hK => ?_) AllReadyH.nil
            refine step_storeAt rfl _ _ rfl w.heap.size (ccells zeroC) 88 HR5.out rfl ⟨nn - 1, sn, n, x, V.zeroDig⟩ HC0.out rfl zeroC_wf.size ?_
            refine hK.out _ _ ?_ (fun hHeld => ?_)
            · (try dsimp only); exact range_setRow hHeld HNE.out _
            clear hK K
            try simp only [List.getElem_toArray, List.getElem_cons_succ, List.getElem_cons_zero, Act.put]
            refine wpAnyH_take (i := 8) (v := ?_) rfl (by kernel_rfl) (by kernel_rfl) (by kernel_rfl) (fun _ _ _ h => h) (Or.inl ⟨by rfl, ?_⟩) (by assumption) ?_
            rotate_left
            · (intro w' hSw; (try dsimp only at hSw); go_simp; try with_reducible rfl)
            try simp only [List.getElem_toArray, List.getElem_cons_succ, List.getElem_cons_zero, Act.put, List.setIfInBounds_toArray, List.set_cons_succ, List.set_cons_zero]
            refine wpAnyH_done (by kernel_rfl) ?_ _
            go_wp2
            refine bodyPost_ret (v := .tuple #[.agg (ccells ⟨nn - 1, sn, n, x, V.zeroDig⟩), .bool false]) ?_ rfl ?_
            · exact results_two Tryz.results47 rfl rfl (loadVar_row HC0.out (setRow_heap _ _ _ _ _ _ HR5.out))
            · rw [HFIN.out]; exact ⟨rfl, setRow_below HB5.out.drew (Nat.le_refl _) _⟩
          · go_wp2_with fail
            refine wp_region_held_drew (S := (fun W' => W'.rangeAt gC 0 (cellsL ⟨nn - 1, sn, n, x, V.zeroDig⟩))) (by kernel_rfl) (by (try dsimp only); exact rangeAt_below (range_row HG5.out) (Below.refl _ w5).drew) (fun hHeld => ?_)
            refine wpAnyH_take (i := 0) (v := (.agg (ccells ⟨nn - 1, sn, n, x, V.zeroDig⟩))) rfl (by kernel_rfl) (by kernel_rfl) (by kernel_rfl) (fun _ _ _ h => h) (Or.inl ⟨by rfl, fun w' hSw => ex_load rfl rfl (load_comp HC0.out hSw)⟩) (by assumption) ?_
            try simp only [List.getElem_toArray, List.getElem_cons_zero, Act.put, List.setIfInBounds_toArray, List.set_cons_succ, List.set_cons_zero]
            refine wpAnyH_take (i := 1) (v := ?_) rfl (by kernel_rfl) (by kernel_rfl) (by kernel_rfl) (fun _ _ _ h => h) (Or.inl ⟨by rfl, ?_⟩) (by assumption) ?_
            rotate_left
            · (intro w' hSw; (try dsimp only at hSw); go_simp; try with_reducible rfl)
            try simp only [List.getElem_toArray, List.getElem_cons_succ, List.getElem_cons_zero, Act.put, List.setIfInBounds_toArray, List.set_cons_succ, List.set_cons_zero]
            refine wpAnyH_take (i := 2) (v := ?_) rfl (by kernel_rfl) (by kernel_rfl) (by kernel_rfl) (fun _ _ _ h => h) (Or.inl ⟨by rfl, ?_⟩) (by assumption) ?_
            rotate_left
            · (intro w' hSw; (try dsimp only at hSw); go_simp; try with_reducible rfl)
            try simp only [List.getElem_toArray, List.getElem_cons_succ, List.getElem_cons_zero, Act.put, List.setIfInBounds_toArray, List.set_cons_succ, List.set_cons_zero]
            refine wpAnyH_take (i := 3) (v := ?_) rfl (by kernel_rfl) (by kernel_rfl) (by kernel_rfl) (fun _ _ _ h => h) (Or.inl ⟨by rfl, ?_⟩) (by assumption) ?_
            rotate_left
            · (intro w' hSw; (try dsimp only at hSw); go_simp; try with_reducible rfl)
            try simp only [List.getElem_toArray, List.getElem_cons_succ, List.getElem_cons_zero, Act.put, List.setIfInBounds_toArray, List.set_cons_succ, List.set_cons_zero]
            refine wpAnyH_take (i := 4) (v := (.int .i64 sn)) rfl (by kernel_rfl) (by kernel_rfl) (by kernel_rfl) (fun _ _ _ h => h) (Or.inl ⟨by rfl, fun w' hSw => by have h1 := hSw 1 _ rfl; rw [Nat.zero_add] at h1; go_simp; try rfl⟩) (by assumption) ?_
            try simp only [List.getElem_toArray, List.getElem_cons_succ, List.getElem_cons_zero, Act.put, List.setIfInBounds_toArray, List.set_cons_succ, List.set_cons_zero]
            refine wpAnyH_take (i := 5) (v := (.bool (!decide (sn = 0)))) rfl (by kernel_rfl) (by kernel_rfl) (by kernel_rfl) (fun _ _ _ h => h) (Or.inl ⟨by rfl, fun w' hSw => by go_simp; try rfl⟩) (by assumption) ?_
            try simp only [List.getElem_toArray, List.getElem_cons_succ, List.getElem_cons_zero, Act.put, List.setIfInBounds_toArray, List.set_cons_succ, List.set_cons_zero]
            refine wpAnyH_take (i := 6) (v := ?_) rfl (by kernel_rfl) (by kernel_rfl) (by kernel_rfl) (fun _ _ _ h => h) (Or.inl ⟨by rfl, ?_⟩) (by assumption) ?_
            rotate_left
            · (intro w' hSw; (try dsimp only at hSw); go_simp; try with_reducible rfl)
            try simp only [List.getElem_toArray, List.getElem_cons_succ, List.getElem_cons_zero, Act.put, List.setIfInBounds_toArray, List.set_cons_succ, List.set_cons_zero]
            refine wpAnyH_ready (rs := [7]) (by kernel_rfl) (by simp) ?_
            refine AllReadyH.cons (o := _) rfl (fun K hK => ?_) AllReadyH.nil
            refine step_storeAt rfl _ _ rfl w.heap.size (ccells zeroC) 88 HR5.out rfl ⟨nn - 1, sn, n, x, V.zeroDig⟩ HC0.out rfl zeroC_wf.size ?_
            refine hK.out _ _ ?_ (fun hHeld => ?_)
            · (try dsimp only); exact range_setRow hHeld HNE.out _
            clear hK K
            try simp only [List.getElem_toArray, List.getElem_cons_succ, List.getElem_cons_zero, Act.put]
            refine wpAnyH_take (i := 8) (v := ?_) rfl (by kernel_rfl) (by kernel_rfl) (by kernel_rfl) (fun _ _ _ h => h) (Or.inl ⟨by rfl, ?_⟩) (by assumption) ?_
            rotate_left
            · (intro w' hSw; (try dsimp only at hSw); go_simp; try with_reducible rfl)
            try simp only [List.getElem_toArray, List.getElem_cons_succ, List.getElem_cons_zero, Act.put, List.setIfInBounds_toArray, List.set_cons_succ, List.set_cons_zero]
            refine wpAnyH_done (by kernel_rfl) ?_ _
            go_wp2
            refine bodyPost_ret (v := .tuple #[.agg (ccells ⟨nn - 1, sn, n, x, V.zeroDig⟩), .bool (!decide (sn = 0))]) ?_ rfl ?_
            · exact results_two Tryz.results47 rfl rfl (loadVar_row HC0.out (setRow_heap _ _ _ _ _ _ HR5.out))
            · rw [HFIN.out]; exact ⟨rfl, setRow_below HB5.out.drew (Nat.le_refl _) _⟩
        · have hgn : (g == []) = false := by rw [beq_eq_false_iff_ne]; exact hgg
          have HFIN : Hid (ReadPost [V.compW, p, s, n, x, g] w = fun e w' => e = .returned (.tuple #[cval ⟨nn - 1, sn, n, x, V.d32 (V.parD g)⟩, .bool ((okn && ((V.parD g).isSome && decide (¬ V.d32 (V.parD g) = V.zeroDig))) && (!decide (sn = 0)))]) ∧ Below w.heap.size w w') := Lib.hid (by rw [HRP.out]; simp [hgg])
          clear HRP HDN
          rw [HFIN.out]
          go_wp2_with fail
          refine (digParse_any ⟨g.toArray⟩ _ HGL.out).mono ?_
          rintro e w6 ⟨rfl, hb6⟩
          rw [bs_arr, cells32_d] at *
          generalize V.d32 (V.parD g) = dg at *
          generalize (V.parD g).isSome = is at *
          have hlt := HLT.out
          have hg6 := (hb6.block gC (by omega)).trans HG5.out
          have hr6 := (hb6.block w.heap.size (by omega)).trans HR5.out
          have hrg := range_dig HC0.out hg6 HDL.out.1
          have hgr := setCells_grown w6 gC 4 (dcells dg).toList
          have hz6 : w5.heap.size ≤ w6.heap.size := hb6.size
          have hr7 := (hgr.block w.heap.size (by omega) (fun e => HNE.out (Option.some.inj e).symm)).trans hr6
          have HTH := Lib.hid (there_dig HC0.out hg6)
          have HB7 := Lib.hid ((HB5.out.trans (hb6.mono (by omega))).trans (grown_below hgr (by omega : w.heap.size ≤ gC) (by omega)))
          have HRG := Lib.hid hrg
          have HR7 := Lib.hid hr7
          obtain ⟨W7, hW7⟩ : ∃ W7, W7 = w6.setCells gC 4 (dcells dg).toList := ⟨_, rfl⟩
          rw [← hW7] at HB7 HRG HR7
          have HW7 := Lib.hid hW7
          have HC7 : Hid (CompWf ⟨nn - 1, sn, n, x, dg⟩) := Lib.hid ⟨HC0.out.1, HC0.out.2, HC0.out.3, HC0.out.4, HDL.out.1, HDL.out.2⟩
          have HRD := Lib.hid (range_dig4 HRG.out)
          have HI : Hid ((Tryz.prog.info? 24).map (·.size) = some (dcellsL dg).length) := Lib.hid (by rw [digInfo]; unfold dcellsL; simp [HDL.out.1])
          clear hg6 hr6 hrg hgr hr7 hW7 hb6 HG5 HR5 HB5 hlt hz6
          rcases okn with _ | _
          · go_wp2_with (first | (refine wl_store_dig rfl _ _ rfl gC 4 dg HDL.out.1 rfl rfl HTH.out W7 HW7.out ?_) | fail)
            refine wp_region_held_drew (S := (fun W' => W'.rangeAt gC 0 (cellsL ⟨nn - 1, sn, n, x, dg⟩))) (by kernel_rfl) (by (try dsimp only); exact rangeAt_below HRG.out (Below.refl _ W7).drew) (fun hHeld => ?_)
            refine wpAnyH_take (i := 0) (v := (.agg (ccells ⟨nn - 1, sn, n, x, dg⟩))) rfl (by kernel_rfl) (by kernel_rfl) (by kernel_rfl) (fun _ _ _ h => h) (Or.inl ⟨by rfl, fun w' hSw => ex_load rfl rfl (load_comp HC7.out hSw)⟩) (by assumption) ?_
            try simp only [List.getElem_toArray, List.getElem_cons_zero, Act.put, List.setIfInBounds_toArray, List.set_cons_succ, List.set_cons_zero]
            refine wpAnyH_take (i := 1) (v := ?_) rfl (by kernel_rfl) (by kernel_rfl) (by kernel_rfl) (fun _ _ _ h => h) (Or.inl ⟨by rfl, ?_⟩) (by assumption) ?_
            rotate_left
            · (intro w' hSw; (try dsimp only at hSw); go_simp; try with_reducible rfl)
            try simp only [List.getElem_toArray, List.getElem_cons_succ, List.getElem_cons_zero, Act.put, List.setIfInBounds_toArray, List.set_cons_succ, List.set_cons_zero]
            refine wpAnyH_take (i := 2) (v := ?_) rfl (by kernel_rfl) (by kernel_rfl) (by kernel_rfl) (fun _ _ _ h => h) (Or.inl ⟨by rfl, ?_⟩) (by assumption) ?_
            rotate_left
            · (intro w' hSw; (try dsimp only at hSw); go_simp; try with_reducible rfl)
            try simp only [List.getElem_toArray, List.getElem_cons_succ, List.getElem_cons_zero, Act.put, List.setIfInBounds_toArray, List.set_cons_succ, List.set_cons_zero]
            refine wpAnyH_take (i := 3) (v := undef) rfl (by kernel_rfl) (by kernel_rfl) (by kernel_rfl) (fun _ _ _ h => h) (Or.inr ⟨by rfl, rfl⟩) (by assumption) ?_
            try simp only [List.getElem_toArray, List.getElem_cons_succ, List.getElem_cons_zero, Act.put, List.setIfInBounds_toArray, List.set_cons_succ, List.set_cons_zero]
            refine wpAnyH_take (i := 4) (v := undef) rfl (by kernel_rfl) (by kernel_rfl) (by kernel_rfl) (fun _ _ _ h => h) (Or.inr ⟨by rfl, rfl⟩) (by assumption) ?_
            try simp only [List.getElem_toArray, List.getElem_cons_succ, List.getElem_cons_zero, Act.put, List.setIfInBounds_toArray, List.set_cons_succ, List.set_cons_zero]
            refine wpAnyH_take (i := 5) (v := undef) rfl (by kernel_rfl) (by kernel_rfl) (by kernel_rfl) (fun _ _ _ h => h) (Or.inr ⟨by rfl, rfl⟩) (by assumption) ?_
            try simp only [List.getElem_toArray, List.getElem_cons_succ, List.getElem_cons_zero, Act.put, List.setIfInBounds_toArray, List.set_cons_succ, List.set_cons_zero]
            refine wpAnyH_take (i := 6) (v := ?_) rfl (by kernel_rfl) (by kernel_rfl) (by kernel_rfl) (fun _ _ _ h => h) (Or.inl ⟨by rfl, ?_⟩) (by assumption) ?_
            rotate_left
            · (intro w' hSw; (try dsimp only at hSw); go_simp; try with_reducible rfl)
            try simp only [List.getElem_toArray, List.getElem_cons_succ, List.getElem_cons_zero, Act.put, List.setIfInBounds_toArray, List.set_cons_succ, List.set_cons_zero]
            refine wpAnyH_ready (rs := [7]) (by kernel_rfl) (by simp) ?_
            refine AllReadyH.cons (o := _) rfl (fun K hK => ?_) AllReadyH.nil
            refine step_storeAt rfl _ _ rfl w.heap.size (ccells zeroC) 88 HR7.out rfl ⟨nn - 1, sn, n, x, dg⟩ HC7.out rfl zeroC_wf.size ?_
            refine hK.out _ _ ?_ (fun hHeld => ?_)
            · (try dsimp only); exact range_setRow hHeld HNE.out _
            clear hK K
            try simp only [List.getElem_toArray, List.getElem_cons_succ, List.getElem_cons_zero, Act.put]
            refine wpAnyH_take (i := 8) (v := ?_) rfl (by kernel_rfl) (by kernel_rfl) (by kernel_rfl) (fun _ _ _ h => h) (Or.inl ⟨by rfl, ?_⟩) (by assumption) ?_
            rotate_left
            · (intro w' hSw; (try dsimp only at hSw); go_simp; try with_reducible rfl)
            try simp only [List.getElem_toArray, List.getElem_cons_succ, List.getElem_cons_zero, Act.put, List.setIfInBounds_toArray, List.set_cons_succ, List.set_cons_zero]
            refine wpAnyH_done (by kernel_rfl) ?_ _
            go_wp2
            refine bodyPost_ret (v := .tuple #[.agg (ccells ⟨nn - 1, sn, n, x, dg⟩), .bool false]) ?_ rfl ?_
            · exact results_two Tryz.results47 rfl rfl (loadVar_row HC7.out (setRow_heap _ _ _ _ _ _ HR7.out))
            · rw [HFIN.out]; exact ⟨rfl, setRow_below HB7.out.drew (Nat.le_refl _) _⟩
          rcases is with _ | _
          · go_wp2_with (first | (refine wl_store_dig rfl _ _ rfl gC 4 dg HDL.out.1 rfl rfl HTH.out W7 HW7.out ?_) | fail)
            refine wp_region_held_drew (S := (fun W' => W'.rangeAt gC 0 (cellsL ⟨nn - 1, sn, n, x, dg⟩))) (by kernel_rfl) (by (try dsimp only); exact rangeAt_below HRG.out (Below.refl _ W7).drew) (fun hHeld => ?_)
            refine wpAnyH_take (i := 0) (v := (.agg (ccells ⟨nn - 1, sn, n, x, dg⟩))) rfl (by kernel_rfl) (by kernel_rfl) (by kernel_rfl) (fun _ _ _ h => h) (Or.inl ⟨by rfl, fun w' hSw => ex_load rfl rfl (load_comp HC7.out hSw)⟩) (by assumption) ?_
            try simp only [List.getElem_toArray, List.getElem_cons_zero, Act.put, List.setIfInBounds_toArray, List.set_cons_succ, List.set_cons_zero]
            refine wpAnyH_take (i := 1) (v := ?_) rfl (by kernel_rfl) (by kernel_rfl) (by kernel_rfl) (fun _ _ _ h => h) (Or.inl ⟨by rfl, ?_⟩) (by assumption) ?_
            rotate_left
            · (intro w' hSw; (try dsimp only at hSw); go_simp; try with_reducible rfl)
            try simp only [List.getElem_toArray, List.getElem_cons_succ, List.getElem_cons_zero, Act.put, List.setIfInBounds_toArray, List.set_cons_succ, List.set_cons_zero]
            refine wpAnyH_take (i := 2) (v := ?_) rfl (by kernel_rfl) (by kernel_rfl) (by kernel_rfl) (fun _ _ _ h => h) (Or.inl ⟨by rfl, ?_⟩) (by assumption) ?_
            rotate_left
            · (intro w' hSw; (try dsimp only at hSw); go_simp; try with_reducible rfl)
            try simp only [List.getElem_toArray, List.getElem_cons_succ, List.getElem_cons_zero, Act.put, List.setIfInBounds_toArray, List.set_cons_succ, List.set_cons_zero]
            refine wpAnyH_take (i := 3) (v := undef) rfl (by kernel_rfl) (by kernel_rfl) (by kernel_rfl) (fun _ _ _ h => h) (Or.inr ⟨by rfl, rfl⟩) (by assumption) ?_
            try simp only [List.getElem_toArray, List.getElem_cons_succ, List.getElem_cons_zero, Act.put, List.setIfInBounds_toArray, List.set_cons_succ, List.set_cons_zero]
            refine wpAnyH_take (i := 4) (v := undef) rfl (by kernel_rfl) (by kernel_rfl) (by kernel_rfl) (fun _ _ _ h => h) (Or.inr ⟨by rfl, rfl⟩) (by assumption) ?_
            try simp only [List.getElem_toArray, List.getElem_cons_succ, List.getElem_cons_zero, Act.put, List.setIfInBounds_toArray, List.set_cons_succ, List.set_cons_zero]
            refine wpAnyH_take (i := 5) (v := undef) rfl (by kernel_rfl) (by kernel_rfl) (by kernel_rfl) (fun _ _ _ h => h) (Or.inr ⟨by rfl, rfl⟩) (by assumption) ?_
            try simp only [List.getElem_toArray, List.getElem_cons_succ, List.getElem_cons_zero, Act.put, List.setIfInBounds_toArray, List.set_cons_succ, List.set_cons_zero]
            refine wpAnyH_take (i := 6) (v := ?_) rfl (by kernel_rfl) (by kernel_rfl) (by kernel_rfl) (fun _ _ _ h => h) (Or.inl ⟨by rfl, ?_⟩) (by assumption) ?_
            rotate_left
            · (intro w' hSw; (try dsimp only at hSw); go_simp; try with_reducible rfl)
            try simp only [List.getElem_toArray, List.getElem_cons_succ, List.getElem_cons_zero, Act.put, List.setIfInBounds_toArray, List.set_cons_succ, List.set_cons_zero]
            refine wpAnyH_ready (rs := [7]) (by kernel_rfl) (by simp) ?_
            refine AllReadyH.cons (o := _) rfl (fun K hK => ?_) AllReadyH.nil
            refine step_storeAt rfl _ _ rfl w.heap.size (ccells zeroC) 88 HR7.out rfl ⟨nn - 1, sn, n, x, dg⟩ HC7.out rfl zeroC_wf.size ?_
            refine hK.out _ _ ?_ (fun hHeld => ?_)
            · (try dsimp only); exact range_setRow hHeld HNE.out _
            clear hK K
            try simp only [List.getElem_toArray, List.getElem_cons_succ, List.getElem_cons_zero, Act.put]
            refine wpAnyH_take (i := 8) (v := ?_) rfl (by kernel_rfl) (by kernel_rfl) (by kernel_rfl) (fun _ _ _ h => h) (Or.inl ⟨by rfl, ?_⟩) (by assumption) ?_
            rotate_left
            · (intro w' hSw; (try dsimp only at hSw); go_simp; try with_reducible rfl)
            try simp only [List.getElem_toArray, List.getElem_cons_succ, List.getElem_cons_zero, Act.put, List.setIfInBounds_toArray, List.set_cons_succ, List.set_cons_zero]
            refine wpAnyH_done (by kernel_rfl) ?_ _
            go_wp2
            refine bodyPost_ret (v := .tuple #[.agg (ccells ⟨nn - 1, sn, n, x, dg⟩), .bool false]) ?_ rfl ?_
            · exact results_two Tryz.results47 rfl rfl (loadVar_row HC7.out (setRow_heap _ _ _ _ _ _ HR7.out))
            · rw [HFIN.out]; exact ⟨rfl, setRow_below HB7.out.drew (Nat.le_refl _) _⟩
          by_cases hz : dg = V.zeroDig
          · have HQ : Hid ((!decide (dg = zero32)) = false) := Lib.hid (by rw [decide_eq_true (show dg = zero32 from hz)]; rfl)
            have HZ := Lib.hid hz
            clear hz
            go_wp2_with (first | (refine wl_store_dig rfl _ _ rfl gC 4 dg HDL.out.1 rfl rfl HTH.out W7 HW7.out ?_) | (refine wl_loadG rfl _ rfl gC 4 rfl HDL.out.1 HRD.out ?_) | (refine wl_neqG rfl _ _ rfl (c := dg) (d := zero32) rfl rfl HDL.out.1 HDL.out.2 (by decide) (by decide) _ HQ.out ?_) | fail)
            refine wp_region_held_drew (S := (fun W' => W'.rangeAt gC 0 (cellsL ⟨nn - 1, sn, n, x, dg⟩))) (by kernel_rfl) (by (try dsimp only); exact rangeAt_below HRG.out (Below.refl _ W7).drew) (fun hHeld => ?_)
            refine wpAnyH_take (i := 0) (v := (.agg (ccells ⟨nn - 1, sn, n, x, dg⟩))) rfl (by kernel_rfl) (by kernel_rfl) (by kernel_rfl) (fun _ _ _ h => h) (Or.inl ⟨by rfl, fun w' hSw => ex_load rfl rfl (load_comp HC7.out hSw)⟩) (by assumption) ?_
            try simp only [List.getElem_toArray, List.getElem_cons_zero, Act.put, List.setIfInBounds_toArray, List.set_cons_succ, List.set_cons_zero]
            refine wpAnyH_take (i := 1) (v := ?_) rfl (by kernel_rfl) (by kernel_rfl) (by kernel_rfl) (fun _ _ _ h => h) (Or.inl ⟨by rfl, ?_⟩) (by assumption) ?_
            rotate_left
            · (intro w' hSw; (try dsimp only at hSw); go_simp; try with_reducible rfl)
            try simp only [List.getElem_toArray, List.getElem_cons_succ, List.getElem_cons_zero, Act.put, List.setIfInBounds_toArray, List.set_cons_succ, List.set_cons_zero]
            refine wpAnyH_take (i := 2) (v := ?_) rfl (by kernel_rfl) (by kernel_rfl) (by kernel_rfl) (fun _ _ _ h => h) (Or.inl ⟨by rfl, ?_⟩) (by assumption) ?_
            rotate_left
            · (intro w' hSw; (try dsimp only at hSw); go_simp; try with_reducible rfl)
            try simp only [List.getElem_toArray, List.getElem_cons_succ, List.getElem_cons_zero, Act.put, List.setIfInBounds_toArray, List.set_cons_succ, List.set_cons_zero]
            refine wpAnyH_take (i := 3) (v := undef) rfl (by kernel_rfl) (by kernel_rfl) (by kernel_rfl) (fun _ _ _ h => h) (Or.inr ⟨by rfl, rfl⟩) (by assumption) ?_
            try simp only [List.getElem_toArray, List.getElem_cons_succ, List.getElem_cons_zero, Act.put, List.setIfInBounds_toArray, List.set_cons_succ, List.set_cons_zero]
            refine wpAnyH_take (i := 4) (v := undef) rfl (by kernel_rfl) (by kernel_rfl) (by kernel_rfl) (fun _ _ _ h => h) (Or.inr ⟨by rfl, rfl⟩) (by assumption) ?_
            try simp only [List.getElem_toArray, List.getElem_cons_succ, List.getElem_cons_zero, Act.put, List.setIfInBounds_toArray, List.set_cons_succ, List.set_cons_zero]
            refine wpAnyH_take (i := 5) (v := undef) rfl (by kernel_rfl) (by kernel_rfl) (by kernel_rfl) (fun _ _ _ h => h) (Or.inr ⟨by rfl, rfl⟩) (by assumption) ?_
            try simp only [List.getElem_toArray, List.getElem_cons_succ, List.getElem_cons_zero, Act.put, List.setIfInBounds_toArray, List.set_cons_succ, List.set_cons_zero]
            refine wpAnyH_take (i := 6) (v := ?_) rfl (by kernel_rfl) (by kernel_rfl) (by kernel_rfl) (fun _ _ _ h => h) (Or.inl ⟨by rfl, ?_⟩) (by assumption) ?_
            rotate_left
            · (intro w' hSw; (try dsimp only at hSw); go_simp; try with_reducible rfl)
            try simp only [List.getElem_toArray, List.getElem_cons_succ, List.getElem_cons_zero, Act.put, List.setIfInBounds_toArray, List.set_cons_succ, List.set_cons_zero]
            refine wpAnyH_ready (rs := [7]) (by kernel_rfl) (by simp) ?_
            refine AllReadyH.cons (o := _) rfl (fun K hK => ?_) AllReadyH.nil
            refine step_storeAt rfl _ _ rfl w.heap.size (ccells zeroC) 88 HR7.out rfl ⟨nn - 1, sn, n, x, dg⟩ HC7.out rfl zeroC_wf.size ?_
            refine hK.out _ _ ?_ (fun hHeld => ?_)
            · (try dsimp only); exact range_setRow hHeld HNE.out _
            clear hK K
            try simp only [List.getElem_toArray, List.getElem_cons_succ, List.getElem_cons_zero, Act.put]
            refine wpAnyH_take (i := 8) (v := ?_) rfl (by kernel_rfl) (by kernel_rfl) (by kernel_rfl) (fun _ _ _ h => h) (Or.inl ⟨by rfl, ?_⟩) (by assumption) ?_
            rotate_left
            · (intro w' hSw; (try dsimp only at hSw); go_simp; try with_reducible rfl)
            try simp only [List.getElem_toArray, List.getElem_cons_succ, List.getElem_cons_zero, Act.put, List.setIfInBounds_toArray, List.set_cons_succ, List.set_cons_zero]
            refine wpAnyH_done (by kernel_rfl) ?_ _
            go_wp2
            refine bodyPost_ret (v := .tuple #[.agg (ccells ⟨nn - 1, sn, n, x, dg⟩), .bool false]) ?_ rfl ?_
            · exact results_two Tryz.results47 rfl rfl (loadVar_row HC7.out (setRow_heap _ _ _ _ _ _ HR7.out))
            · rw [HFIN.out]; exact ⟨by rw [decide_eq_false (fun h : ¬ dg = V.zeroDig => h HZ.out)]; rfl, setRow_below HB7.out.drew (Nat.le_refl _) _⟩
          · have HQ : Hid ((!decide (dg = zero32)) = true) := Lib.hid (by rw [decide_eq_false (show ¬ dg = zero32 from hz)]; rfl)
            have HZ := Lib.hid hz
            clear hz
            go_wp2_with (first | (refine wl_store_dig rfl _ _ rfl gC 4 dg HDL.out.1 rfl rfl HTH.out W7 HW7.out ?_) | (refine wl_loadG rfl _ rfl gC 4 rfl HDL.out.1 HRD.out ?_) | (refine wl_neqG rfl _ _ rfl (c := dg) (d := zero32) rfl rfl HDL.out.1 HDL.out.2 (by decide) (by decide) _ HQ.out ?_) | fail)
            refine wp_region_held_drew (S := (fun W' => W'.rangeAt gC 0 (cellsL ⟨nn - 1, sn, n, x, dg⟩))) (by kernel_rfl) (by (try dsimp only); exact rangeAt_below HRG.out (Below.refl _ W7).drew) (fun hHeld => ?_)
            refine wpAnyH_take (i := 0) (v := (.agg (ccells ⟨nn - 1, sn, n, x, dg⟩))) rfl (by kernel_rfl) (by kernel_rfl) (by kernel_rfl) (fun _ _ _ h => h) (Or.inl ⟨by rfl, fun w' hSw => ex_load rfl rfl (load_comp HC7.out hSw)⟩) (by assumption) ?_
            try simp only [List.getElem_toArray, List.getElem_cons_zero, Act.put, List.setIfInBounds_toArray, List.set_cons_succ, List.set_cons_zero]
            refine wpAnyH_take (i := 1) (v := ?_) rfl (by kernel_rfl) (by kernel_rfl) (by kernel_rfl) (fun _ _ _ h => h) (Or.inl ⟨by rfl, ?_⟩) (by assumption) ?_
            rotate_left
            · (intro w' hSw; (try dsimp only at hSw); go_simp; try with_reducible rfl)
            try simp only [List.getElem_toArray, List.getElem_cons_succ, List.getElem_cons_zero, Act.put, List.setIfInBounds_toArray, List.set_cons_succ, List.set_cons_zero]
            refine wpAnyH_take (i := 2) (v := ?_) rfl (by kernel_rfl) (by kernel_rfl) (by kernel_rfl) (fun _ _ _ h => h) (Or.inl ⟨by rfl, ?_⟩) (by assumption) ?_
            rotate_left
            · (intro w' hSw; (try dsimp only at hSw); go_simp; try with_reducible rfl)
            try simp only [List.getElem_toArray, List.getElem_cons_succ, List.getElem_cons_zero, Act.put, List.setIfInBounds_toArray, List.set_cons_succ, List.set_cons_zero]
            refine wpAnyH_take (i := 3) (v := ?_) rfl (by kernel_rfl) (by kernel_rfl) (by kernel_rfl) (fun _ _ _ h => h) (Or.inl ⟨by rfl, ?_⟩) (by assumption) ?_
            rotate_left
            · (intro w' hSw; (try dsimp only at hSw); go_simp; try with_reducible rfl)
            try simp only [List.getElem_toArray, List.getElem_cons_succ, List.getElem_cons_zero, Act.put, List.setIfInBounds_toArray, List.set_cons_succ, List.set_cons_zero]
            refine wpAnyH_take (i := 4) (v := (.int .i64 sn)) rfl (by kernel_rfl) (by kernel_rfl) (by kernel_rfl) (fun _ _ _ h => h) (Or.inl ⟨by rfl, fun w' hSw => by have h1 := hSw 1 _ rfl; rw [Nat.zero_add] at h1; go_simp; try rfl⟩) (by assumption) ?_
            try simp only [List.getElem_toArray, List.getElem_cons_succ, List.getElem_cons_zero, Act.put, List.setIfInBounds_toArray, List.set_cons_succ, List.set_cons_zero]
            refine wpAnyH_take (i := 5) (v := (.bool (!decide (sn = 0)))) rfl (by kernel_rfl) (by kernel_rfl) (by kernel_rfl) (fun _ _ _ h => h) (Or.inl ⟨by rfl, fun w' hSw => by go_simp; try rfl⟩) (by assumption) ?_
            try simp only [List.getElem_toArray, List.getElem_cons_succ, List.getElem_cons_zero, Act.put, List.setIfInBounds_toArray, List.set_cons_succ, List.set_cons_zero]
            refine wpAnyH_take (i := 6) (v := ?_) rfl (by kernel_rfl) (by kernel_rfl) (by kernel_rfl) (fun _ _ _ h => h) (Or.inl ⟨by rfl, ?_⟩) (by assumption) ?_
            rotate_left
            · (intro w' hSw; (try dsimp only at hSw); go_simp; try with_reducible rfl)
            try simp only [List.getElem_toArray, List.getElem_cons_succ, List.getElem_cons_zero, Act.put, List.setIfInBounds_toArray, List.set_cons_succ, List.set_cons_zero]
            refine wpAnyH_ready (rs := [7]) (by kernel_rfl) (by simp) ?_
            refine AllReadyH.cons (o := _) rfl (fun K hK => ?_) AllReadyH.nil
            refine step_storeAt rfl _ _ rfl w.heap.size (ccells zeroC) 88 HR7.out rfl ⟨nn - 1, sn, n, x, dg⟩ HC7.out rfl zeroC_wf.size ?_
            refine hK.out _ _ ?_ (fun hHeld => ?_)
            · (try dsimp only); exact range_setRow hHeld HNE.out _
            clear hK K
            try simp only [List.getElem_toArray, List.getElem_cons_succ, List.getElem_cons_zero, Act.put]
            refine wpAnyH_take (i := 8) (v := ?_) rfl (by kernel_rfl) (by kernel_rfl) (by kernel_rfl) (fun _ _ _ h => h) (Or.inl ⟨by rfl, ?_⟩) (by assumption) ?_
            rotate_left
            · (intro w' hSw; (try dsimp only at hSw); go_simp; try with_reducible rfl)
            try simp only [List.getElem_toArray, List.getElem_cons_succ, List.getElem_cons_zero, Act.put, List.setIfInBounds_toArray, List.set_cons_succ, List.set_cons_zero]
            refine wpAnyH_done (by kernel_rfl) ?_ _
            go_wp2
            refine bodyPost_ret (v := .tuple #[.agg (ccells ⟨nn - 1, sn, n, x, dg⟩), .bool (!decide (sn = 0))]) ?_ rfl ?_
            · exact results_two Tryz.results47 rfl rfl (loadVar_row HC7.out (setRow_heap _ _ _ _ _ _ HR7.out))
            · rw [HFIN.out]; exact ⟨by rw [decide_eq_true HZ.out]; rfl, setRow_below HB7.out.drew (Nat.le_refl _) _⟩
    · have HFIN : Hid (ReadPost [a, p, s, n, x, g] w = fun e w' => e = .returned (.tuple #[.agg (ccells zeroC), .bool false]) ∧ Below w.heap.size w w') := Lib.hid (by unfold ReadPost; rw [V.readC_word ha]; rfl)
      have hne : (a == [99, 111, 109, 112, 111, 110, 101, 110, 116]) = false := by rw [beq_eq_false_iff_ne]; exact ha
      clear ha
      rw [HFIN.out]
      go_enter Tryz.func47, Tryz.ntmps47
      go_wp2_with (first | (refine wl_store rfl _ _ rfl _ _ rfl zeroC zeroC_wf rfl rfl ?_) | fail)
      refine bodyPost_ret (v := .tuple #[.agg (ccells zeroC), .bool false]) ?_ rfl ⟨rfl, (Below.refl _ w).alloc (Nat.le_refl _) _⟩
      exact results_two Tryz.results47 rfl rfl (loadVar_row zeroC_wf (heap_alloc_new w _))
  · have HFIN : Hid (ReadPost l w = fun e w' => e = .returned (.tuple #[.agg (ccells zeroC), .bool false]) ∧ Below w.heap.size w w') := Lib.hid (by unfold ReadPost; rw [V.readC_not h6]; rfl)
    obtain ⟨va, cap, rfl, hx⟩ := hv
    clear hx
    have hne : ((l.length : Int) != 6) = true := by simp; omega
    have hne2 : ((l.length : Int) == 6) = false := by rw [beq_eq_false_iff_ne]; omega
    have hne3 : ¬ (l.length : Int) = 6 := by omega
    clear hb0 h6 hw
    rw [HFIN.out]
    generalize l.length = m at *
    go_enter Tryz.func47, Tryz.ntmps47
    go_wp2_with (first | (refine wl_store rfl _ _ rfl _ _ rfl zeroC zeroC_wf rfl rfl ?_) | fail)
    refine bodyPost_ret (v := .tuple #[.agg (ccells zeroC), .bool false]) ?_ rfl ⟨rfl, (Below.refl _ w).alloc (Nat.le_refl _) _⟩
    exact results_two Tryz.results47 rfl rfl (loadVar_row zeroC_wf (heap_alloc_new w _))
end Go.Proofs.YtnhfaincdabdkaaGreatDoor
