/-
  Walk: the maker of lists of components.
  Walk: the maker of inventories (law 19).
-/
import Derived.Test.YtnhfaincdabdkaaGreatDoorR3
import Derived.Test.YtnhfaincdabdkaaGreatDoorPJ
namespace Go.Proofs.YtnhfaincdabdkaaGreatDoor
open Go.RowKit

theorem grown_own {w w1 w2 : World} {row row2 : Option Nat} (h : w.grownBy w1 row) (h2 : w1.grownBy w2 row2) (hr : ∀ g, row2 = some g → w.heap.size ≤ g) : w.grownBy w2 row :=
  ⟨h2.os.trans h.os, h2.tape.trans h.tape, h2.output.trans h.output, Nat.le_trans h.size h2.size, fun k hk hne => (h2.block k (Nat.lt_of_lt_of_le hk h.size) (fun e => by have := hr k e.symm; omega)).trans (h.block k hk hne)⟩
theorem take_mem_step {l : List V.Comp} {c : V.Comp} {j : Nat} (h : j < l.length) : decide (c ∈ l.take (j + 1)) = (decide (c ∈ l.take j) || decide (l[j] = c)) := by
  rw [List.take_succ_eq_append_getElem h]
  have : (c ∈ l.take j ++ [l[j]]) ↔ (c ∈ l.take j ∨ l[j] = c) := by
    rw [List.mem_append, List.mem_singleton]
    exact ⟨fun h => h.imp id Eq.symm, fun h => h.imp id Eq.symm⟩
  rw [decide_eq_decide.2 this, Bool.decide_or]

def CompsPost (b k most : Nat) (w : World) (e : Ending) (w' : World) : Prop :=
  ∃ (v : Value) (l : List V.Comp), l.length ≤ most ∧ V.compsTo l l.length = true ∧ e = .returned v ∧ CRow w' w.heap.size v l ∧ Tape w' b (k + 1 + 6 * most) ∧ w.grownBy w' (some b)

set_option maxRecDepth 100000 in
set_option maxHeartbeats 3200000 in
theorem comps_any (b k most : Nat) (w : World) (h : Tape w b k) (hk : k ≤ 10000) (hmost : most ≤ 100) :
    Calls Tryz.prog 103 #[.pointer (some ⟨b, 0, none⟩), .int .i64 most] w (CompsPost b k most w) := by
  have HT := Lib.hid h
  have hbw := h.lt
  clear h
  go_enter Tryz.func103, Tryz.ntmps103
  go_wp2_with fail
  refine (next_any b k ((most : Int) + 1) _ HT.out (by omega) (by omega) (by omega)).mono ?_
  rintro e w1 ⟨r, hr, rfl, ht1, hg1⟩
  have HT1 := Lib.hid ht1
  have HG1 := Lib.hid hg1
  have hrm : r ≤ most := by omega
  clear ht1 hg1
  go_wp2
  go_loopw [5, 6] (fun ov iv wr => ∃ (q : Nat) (l : List V.Comp), q ≤ r ∧ iv = .int .i64 q ∧ l.length + q ≤ r ∧ CRow wr w.heap.size ov l ∧ V.compsTo l l.length = true ∧ Tape wr b (k + 1 + 6 * (r - q)) ∧ w.grownBy wr (some b)) (fun _ iv _ => (intOf iv).toNat)
  case atStart => exact ⟨r, [], Nat.le_refl _, rfl, by simp, CRow.nil _ _, rfl, HT1.out.le (by omega), HG1.out⟩
  case round =>
    obtain ⟨q, l, hq, rfl, hlq, hcr, hto, htp, hgr⟩ := hrel
    have HCR := Lib.hid hcr
    have HTO := Lib.hid hto
    have HTP := Lib.hid htp
    have HGR := Lib.hid hgr
    have HBL := Lib.hid hcr.block
    obtain ⟨va, vc, hov, hjunk⟩ := hcr.comps
    subst hov
    clear hjunk
    clear hcr hto htp hgr
    by_cases hq0 : q = 0
    · subst hq0
      go_wp2
      go_ret
      exact ⟨_, l, by omega, HTO.out, rfl, HCR.out, HTP.out.le (by omega), HGR.out⟩
    · obtain ⟨p, rfl⟩ : ∃ p, q = p + 1 := ⟨q - 1, by omega⟩
      have hp0 : (0 : Int) < ((p + 1 : Nat) : Int) := by omega
      go_wp2_with fail
      refine (next_any b _ ((l.length : Int) + 1) _ HTP.out (by omega) (by omega) (by omega)).mono ?_
      rintro e w2 ⟨r2, hr2, rfl, ht2, hg2⟩
      have HT2 := Lib.hid ht2
      have HG2 := Lib.hid (World.grownBy.trans HGR.out hg2)
      have HC2 := Lib.hid (HCR.out.kept hg2 (by intro b' e; cases e; omega))
      clear ht2 hg2
      go_wp2_with fail
      refine (comp_any b _ ((r2 : Int) - 1) _ HT2.out (by omega) (WalkArith.wf_i64 (by omega))).mono ?_
      rintro e w3 ⟨c, hmd, rfl, ht3, hg3⟩
      have HMD := Lib.hid hmd
      have HT3 := Lib.hid ht3
      have HG3 := Lib.hid (World.grownBy.trans HG2.out hg3)
      have HC3 := Lib.hid (HC2.out.kept hg3 (by intro b' e; cases e; omega))
      clear hmd ht3 hg3
      go_wp2_with (first | (refine wl_store rfl _ _ rfl _ _ rfl c HMD.out.wf rfl rfl ?_) | fail)
      have hx4 := range_new c w3 88
      have hb4 : Below w3.heap.size w3 (w3.alloc (.cells (ccells c) 88)) := (Below.refl _ w3).alloc (Nat.le_refl _) _
      have hz4 : w3.heap.size < (w3.alloc (.cells (ccells c) 88)).heap.size := by simp
      have HT4 := Lib.hid (HT3.out.below hb4)
      have HG4 := Lib.hid (World.grownBy.trans HG3.out (below_grown hb4 (some b)))
      have HC4 : Hid (CRow (w3.alloc (.cells (ccells c) 88)) w.heap.size (.slice va l.length vc) l) := Lib.hid (HC3.out.kept (row := none) (below_grown hb4 none) (by intro b' e; cases e))
      generalize w3.alloc (.cells (ccells c) 88) = w4 at *
      obtain ⟨X, hXe⟩ : ∃ X, X = w3.heap.size := ⟨_, rfl⟩
      rw [← hXe] at hx4 hz4 ⊢
      have HX4 := Lib.hid hx4
      clear hXe hb4 hx4
      go_wp2
      go_loopw [8, 9] (fun ag jv wx => ∃ j : Nat, j ≤ l.length ∧ jv = .int .i64 j ∧ ag = .bool (decide (c ∈ l.take j)) ∧ Below w4.heap.size w4 wx) (fun _ jv _ => l.length - (intOf jv).toNat)
      case atStart => exact ⟨0, Nat.zero_le _, rfl, rfl, Below.refl _ _⟩
      case round =>
        obtain ⟨j, hj, rfl, rfl, hbx⟩ := hrel
        have HBX := Lib.hid hbx
        clear hbx
        by_cases hlt : j < l.length
        · have HTS := Lib.hid (take_mem_step (c := c) hlt)
          obtain ⟨hdw, g, off, rfl, hgl, hgr⟩ := HC4.out.comps.at j hlt
          have HDW := Lib.hid hdw
          have HDR := Lib.hid (rangeAt_below (rangeAt_below hgr HBX.out) (Below.refl _ wr).drew)
          have HXR : Hid (wr.drew.rangeAt X 0 (cellsL c)) := Lib.hid (rangeAt_below (rangeAt_below HX4.out HBX.out) (Below.refl _ wr).drew)
          clear hdw hgr
          generalize l[j] = d at *
          rcases hag : decide (c ∈ l.take j) with _ | _
          · rw [hag] at HTS
            clear hag
            go_wp2
            refine wp_region_still_lit (by kernel_rfl) (by kernel_rfl) ?_
            still_step
            still_step
            still_step
            still_step
            still_step
            refine wpStill_step (fun K hK => ?_)
            refine still_load rfl (.tmp 36) rfl g (off + j * 36) rfl d HDW.out HDR.out (hK _ ?_)
            clear hK K
            refine wpStill_step (fun K hK => ?_)
            refine still_load rfl (.tmp 7) rfl X 0 rfl c HMD.out.wf HXR.out (hK _ ?_)
            clear hK K
            refine wpStill_step (fun K hK => ?_)
            refine still_eql rfl (.tmp 37) (.tmp 38) rfl d c HDW.out HMD.out.wf rfl rfl (hK _ ?_)
            clear hK K
            still_step
            still_step
            refine wpStill_nil ?_
            have HBD := Lib.hid HBX.out.drew
            change Exit.inBlock _ _ _ _ wr.drew
            go_wp2
            go_roundw
            case rel => exact ⟨j + 1, by omega, by go_num, by rw [HTS.out]; rfl, HBD.out⟩
            case measure => simp [intOf]; omega
          · rw [hag] at HTS
            clear hag
            go_wp2
            refine wp_region_any (by kernel_rfl) ?_
            change wpAny _ _ _ _ _ _ _ (World.drew _)
            refine wpAny_take (i := 0) (v := .bool true) rfl (by kernel_rfl) (by kernel_rfl) (by kernel_rfl) (fun _ _ _ h => h) (Or.inl ⟨by rfl, fun w => by go_simp⟩) ?_
            refine wpAny_take (i := 1) (v := .bool true) rfl (by kernel_rfl) (by kernel_rfl) (by kernel_rfl) (fun _ _ _ h => h) (Or.inl ⟨by rfl, fun w => by go_simp⟩) ?_
            simp only [List.getElem_toArray, List.getElem_cons_succ, List.getElem_cons_zero, Act.put, List.setIfInBounds_toArray, List.set_cons_succ, List.set_cons_zero]
            refine wpAny_take (i := 2) (v := undef) rfl (by kernel_rfl) (by kernel_rfl) (by kernel_rfl) (fun _ _ _ h => h) (Or.inr ⟨by rfl, rfl⟩) ?_
            refine wpAny_take (i := 3) (v := undef) rfl (by kernel_rfl) (by kernel_rfl) (by kernel_rfl) (fun _ _ _ h => h) (Or.inr ⟨by rfl, rfl⟩) ?_
            refine wpAny_take (i := 4) (v := undef) rfl (by kernel_rfl) (by kernel_rfl) (by kernel_rfl) (fun _ _ _ h => h) (Or.inr ⟨by rfl, rfl⟩) ?_
            refine wpAny_take (i := 5) (v := undef) rfl (by kernel_rfl) (by kernel_rfl) (by kernel_rfl) (fun _ _ _ h => h) (Or.inr ⟨by rfl, rfl⟩) ?_
            refine wpAny_take (i := 6) (v := undef) rfl (by kernel_rfl) (by kernel_rfl) (by kernel_rfl) (fun _ _ _ h => h) (Or.inr ⟨by rfl, rfl⟩) ?_
            refine wpAny_take (i := 7) (v := undef) rfl (by kernel_rfl) (by kernel_rfl) (by kernel_rfl) (fun _ _ _ h => h) (Or.inr ⟨by rfl, rfl⟩) ?_
            simp only [List.getElem_toArray, List.getElem_cons_succ, List.getElem_cons_zero, Act.put, List.setIfInBounds_toArray, List.set_cons_succ, List.set_cons_zero]
            refine wpAny_take (i := 8) (v := .bool true) rfl (by kernel_rfl) (by kernel_rfl) (by kernel_rfl) (fun _ _ _ h => h) (Or.inl ⟨by rfl, fun w => by go_simp⟩) ?_
            simp only [List.getElem_toArray, List.getElem_cons_succ, List.getElem_cons_zero, Act.put, List.setIfInBounds_toArray, List.set_cons_succ, List.set_cons_zero]
            refine wpAny_take (i := 9) (v := .bool true) rfl (by kernel_rfl) (by kernel_rfl) (by kernel_rfl) (fun _ _ _ h => h) (Or.inl ⟨by rfl, fun w => by go_simp⟩) ?_
            refine wpAny_done (by kernel_rfl) ?_ _
            simp only [List.getElem_toArray, List.getElem_cons_succ, List.getElem_cons_zero, Act.put, List.setIfInBounds_toArray, List.set_cons_succ, List.set_cons_zero]
            have HBD := Lib.hid HBX.out.drew
            change Exit.inBlock _ _ _ _ wr.drew
            go_wp2
            go_roundw
            case rel => exact ⟨j + 1, by omega, by go_num, by rw [HTS.out]; rfl, HBD.out⟩
            case measure => simp [intOf]; omega
        · obtain rfl : j = l.length := by omega
          rw [List.take_length]
          have HT5 := Lib.hid (HT4.out.below HBX.out)
          have HG5 := Lib.hid (World.grownBy.trans HG4.out (below_grown HBX.out (some b)))
          have HC5 : Hid (CRow wr w.heap.size (.slice va l.length vc) l) := Lib.hid (HC4.out.kept (row := none) (below_grown HBX.out none) (by intro b' e; cases e))
          have HX5 := Lib.hid (rangeAt_below HX4.out HBX.out)
          rcases hag : decide (c ∈ l) with _ | _
          · have HNI : Hid (c ∉ l) := Lib.hid (of_decide_eq_false hag)
            have hwN : w.heap.size ≤ (wr.alloc (.cells (ccells c) 88)).heap.size := by have := HG5.out.size; simp; omega
            have hb6 : Below wr.heap.size wr (wr.alloc (.cells (ccells c) 88)) := (Below.refl _ wr).alloc (Nat.le_refl _) _
            have HC6 : Hid (CRow (wr.alloc (.cells (ccells c) 88)) w.heap.size (.slice va l.length vc) l) := Lib.hid (HC5.out.kept (row := none) (below_grown hb6 none) (by intro b' e; cases e))
            clear hag
            go_wp2_with (first | (refine wl_load rfl _ rfl X 0 rfl c HMD.out.wf HX5.out ?_) | (refine wl_build1 rfl _ rfl c HMD.out.wf rfl ?_) | (refine wl_appendC rfl _ _ rfl w.heap.size (.slice va l.length vc) l rfl HC6.out wr.heap.size c HMD.out.wf rfl (range_new c wr _) (by omega) hwN ?_; intro v' w7 hc7 hg7) | fail)
            have HC7 := Lib.hid hc7
            have hrow : ∀ g, (Value.slice va l.length vc).ownBlock = some g → w.heap.size ≤ g := HBL.out
            have hgb := grown_own (World.grownBy.trans HG5.out (below_grown hb6 (some b))) hg7 hrow
            have HG7 := Lib.hid hgb
            have HT7 := Lib.hid ((HT5.out.below hb6).grown hg7 (fun e => by have := hrow b e; omega) (fun g e => by have := hrow g e; omega))
            have HTO7 : Hid (V.compsTo (l ++ [c]) (l ++ [c]).length = true) := Lib.hid (compsTo_more HTO.out HMD.out.ok (by rw [HMD.out.par]; omega) (by rw [HMD.out.par]; omega) HNI.out)
            clear hc7 hg7 hgb hb6 hwN
            go_wp2
            go_roundw
            case rel => exact ⟨p, l ++ [c], by omega, by go_num, by simp; omega, HC7.out, HTO7.out, HT7.out.le (by omega), HG7.out⟩
            case measure => simp [intOf]
          · clear hag
            go_wp2
            go_roundw
            case rel => exact ⟨p, l, by omega, by go_num, by omega, HC5.out, HTO.out, HT5.out.le (by omega), HG5.out⟩
            case measure => simp [intOf]
end Go.Proofs.YtnhfaincdabdkaaGreatDoor
namespace Go.Proofs.YtnhfaincdabdkaaGreatDoor
open Go.RowKit

theorem invInfo : (Tryz.prog.info? 27).map (·.size) = some 34 := by kernel_rfl
theorem icells_size {d : List Int} (hd : d.length = 32) (time : Int) (v : Value) : (icells d time v).size = 34 := by
  unfold icells dcellsL
  simp [hd]
theorem icells_one {d : List Int} {time : Int} {v : Value} (hv : v.oneCell' = true) : (icells d time v).all (·.oneCell') = true := by
  rw [Array.all_eq_true_iff_forall_mem]
  intro u hu
  unfold icells dcellsL at hu
  simp at hu
  rcases hu with ⟨n, _, rfl⟩ | rfl | rfl
  · rfl
  · rfl
  · exact hv
theorem CRow.less {w : World} {N M : Nat} {v : Value} {l : List V.Comp} (h : CRow w N v l) (hM : M ≤ N) : CRow w M v l := by
  obtain ⟨⟨hx, h⟩, hw⟩ := h
  refine ⟨⟨hx, ?_⟩, hw⟩
  rcases h with h | ⟨g, cap, cur, h1, h2, h3⟩
  · exact .inl h
  · exact .inr ⟨g, cap, cur, h1, Nat.le_trans hM h2, h3⟩
theorem Comps.one {w : World} {v : Value} {l : List V.Comp} (h : Comps w v l) : v.oneCell' = true := by
  obtain ⟨a, cap, rfl, _⟩ := h
  rfl

theorem zero_inv : (#[Value.int .u8 0, .int .u8 0, .int .u8 0, .int .u8 0, .int .u8 0, .int .u8 0, .int .u8 0, .int .u8 0, .int .u8 0, .int .u8 0, .int .u8 0, .int .u8 0, .int .u8 0, .int .u8 0, .int .u8 0, .int .u8 0, .int .u8 0, .int .u8 0, .int .u8 0, .int .u8 0, .int .u8 0, .int .u8 0, .int .u8 0, .int .u8 0, .int .u8 0, .int .u8 0, .int .u8 0, .int .u8 0, .int .u8 0, .int .u8 0, .int .u8 0, .int .u8 0, .int .i64 0, .slice none 0 0] : Array Value) = icells zero32 0 (.slice none 0 0) := rfl

theorem lit_inv (r : Int) (v : Value) : (#[Value.int .u8 1, .int .u8 0, .int .u8 0, .int .u8 0, .int .u8 0, .int .u8 0, .int .u8 0, .int .u8 0, .int .u8 0, .int .u8 0, .int .u8 0, .int .u8 0, .int .u8 0, .int .u8 0, .int .u8 0, .int .u8 0, .int .u8 0, .int .u8 0, .int .u8 0, .int .u8 0, .int .u8 0, .int .u8 0, .int .u8 0, .int .u8 0, .int .u8 0, .int .u8 0, .int .u8 0, .int .u8 0, .int .u8 0, .int .u8 0, .int .u8 0, .int .u8 0, .int .i64 r, v] : Array Value) = icells (dig1 1) r v := rfl

/-- an inventory that was made -/
structure InvMade (w : World) (N : Nat) (time : Int) (v : Value) (l : List V.Comp) : Prop where
  time0 : 0 ≤ time
  time9 : time < 9
  len : l.length ≤ 8
  ok : V.compsTo l l.length = true
  row : CRow w N v l
theorem InvMade.valid {w : World} {N : Nat} {time : Int} {v : Value} {l : List V.Comp} (h : InvMade w N time v l) : V.invOk (dig1 1) time l = true := by
  have := h.time0
  have := h.time9
  have := h.len
  rw [inv_rest (by decide) (by omega) (by omega) (by omega)]
  exact h.ok

def MadePost (b k : Nat) (w : World) (e : Ending) (w' : World) : Prop :=
  ∃ (time : Int) (v : Value) (l : List V.Comp), InvMade w' w.heap.size time v l ∧ e = .returned (.agg (icells (dig1 1) time v)) ∧ Tape w' b (k + 50) ∧ w.grownBy w' (some b)

set_option maxRecDepth 100000 in
set_option maxHeartbeats 1600000 in
theorem made_any (b k : Nat) (w : World) (h : Tape w b k) (hk : k ≤ 1000) :
    Calls Tryz.prog 54 #[.pointer (some ⟨b, 0, none⟩)] w (MadePost b k w) := by
  have HT := Lib.hid h
  have hbw := h.lt
  clear h
  go_enter Tryz.func54, Tryz.ntmps54
  go_wp2_with fail
  rw [zero_inv]
  obtain ⟨W0, hW0⟩ : ∃ W0, W0 = w.alloc (.cells (icells zero32 0 (.slice none 0 0)) 27) := ⟨_, rfl⟩
  have hg0 : W0.heap[w.heap.size]? = some (.cells (icells zero32 0 (.slice none 0 0)) 27 (0, 0)) := by rw [hW0]; exact heap_alloc_new w _
  have hz0 : W0.heap.size = w.heap.size + 1 := by rw [hW0]; simp
  have hb0 : Below w.heap.size w W0 := by rw [hW0]; exact (Below.refl _ w).alloc (Nat.le_refl _) _
  rw [← hW0]
  clear hW0
  refine (next_any b k 9 _ (HT.out.below hb0) (by omega) (by omega) (by omega)).mono ?_
  rintro e w1 ⟨r, hr, rfl, ht1, hg1⟩
  have HG1 := Lib.hid (World.grownBy.trans (below_grown hb0 (some b)) hg1)
  have HT1 := Lib.hid ht1
  have hz1 : w.heap.size < w1.heap.size := Nat.lt_of_lt_of_le (by omega) hg1.size
  have HR1 : Hid (w1.heap[w.heap.size]? = some (.cells (icells zero32 0 (.slice none 0 0)) 27 (0, 0))) := Lib.hid ((hg1.block _ (by omega) (by simp; omega)).trans hg0)
  clear hg0 hz0 hb0 ht1 hg1
  go_wp2_with fail
  refine (comps_any b (k + 1) 8 _ HT1.out (by omega) (by omega)).mono ?_
  rintro e w2 ⟨v, l, hl, hto, rfl, hcr, ht2, hg2⟩
  obtain ⟨va, vc, hve, hjunk⟩ := hcr.comps
  subst hve
  clear hjunk
  have hcl : CRow w2 w.heap.size (.slice va l.length vc) l := hcr.less (by omega)
  have HG2 := Lib.hid (World.grownBy.trans HG1.out hg2)
  have HT2 := Lib.hid ht2
  have HR2 := Lib.hid ((hg2.block _ hz1 (by simp; omega)).trans HR1.out)
  have hv1 := hcl.comps.one
  have HC2 : Hid (CRow (w2.setRow w.heap.size (icells (dig1 1) r (.slice va l.length vc))) w.heap.size (.slice va l.length vc) l) := Lib.hid (by
    have hcl2 : CRow w2 (w.heap.size + 1) (.slice va l.length vc) l := hcr.less (by omega)
    exact (hcl2.kept (setRow_grown w2 w.heap.size _) (by intro g e; cases e; omega)).less (by omega))
  have HIN : Hid ((Tryz.prog.info? 27).map (·.size) = some (icells (dig1 1) r (.slice va l.length vc)).size) := Lib.hid (by rw [invInfo, icells_size rfl])
  have HS : Hid ((icells zero32 0 (.slice none 0 0)).size = (icells (dig1 1) r (.slice va l.length vc)).size) := Lib.hid (by rw [icells_size rfl, icells_size rfl])
  have HO := Lib.hid (icells_one (d := dig1 1) (time := r) hv1)
  have HTO := Lib.hid hto
  clear hcr ht2 hg2 hto hcl hv1
  go_wp2_with (first | ((refine wpList_store_row rfl _ _ _ rfl w.heap.size (icells (dig1 1) r (.slice va l.length vc)) ?hx ?hy 27 _ HR2.out HIN.out HS.out HO.out ?hr); (case hx => rfl); (case hy => exact congrArg Value.agg (lit_inv _ _))) | fail)
  refine bodyPost_ret (v := .agg (icells (dig1 1) r (.slice va l.length vc))) ?_ rfl ⟨r, .slice va l.length vc, l, ⟨by omega, by omega, hl, HTO.out, HC2.out⟩, rfl, ?_, ?_⟩
  · exact results_one Tryz.results54 rfl (run_loadVar_row _ w.heap.size _ _ _ (0, 0) _ (setRow_heap w2 w.heap.size _ _ _ _ HR2.out) Tryz.underlying27 rfl HIN.out)
  · exact (HT2.out.grown (setRow_grown w2 w.heap.size _) (by simp; omega) (by intro b' e; cases e; omega)).le (by omega)
  · exact grown_new HG2.out (setRow_grown _ _ _) (Nat.le_refl _)
end Go.Proofs.YtnhfaincdabdkaaGreatDoor
