/-
  Walk: the maker of lists of components.
  Walk: the maker of inventories (law 19).
  The state of a merge: what the loop keeps.
-/
import Derived.Test.YtpjjkbdkgaehkaaGreatDoorJN
namespace Go.Proofs.YtpjjkbdkgaehkaaGreatDoor
open Go.RowKit

theorem grown_own {w w1 w2 : World} {row row2 : Option Nat} (h : w.grownBy w1 row) (h2 : w1.grownBy w2 row2) (hr : ∀ g, row2 = some g → w.heap.size ≤ g) : w.grownBy w2 row :=
  ⟨h2.os.trans h.os, h2.tape.trans h.tape, h2.output.trans h.output, Nat.le_trans h.size h2.size, fun k hk hne => (h2.block k (Nat.lt_of_lt_of_le hk h.size) (fun e => by have := hr k e.symm; omega)).trans (h.block k hk hne)⟩
theorem take_mem_step {l : List V.Comp} {c : V.Comp} {j : Nat} (h : j < l.length) : decide (c ∈ l.take (j + 1)) = (decide (c ∈ l.take j) || decide (l[j] = c)) := by
  rw [List.take_succ_eq_append_getElem h]
  have : (c ∈ l.take j ++ [l[j]]) ↔ (c ∈ l.take j ∨ l[j] = c) := by
    rw [List.mem_append, List.mem_singleton]
    exact ⟨fun h => h.imp id Eq.symm, fun h => h.imp id Eq.symm⟩
  rw [decide_eq_decide.2 this, Bool.decide_or]

def CompsPost (b k most : Nat) (w : World) (e : Ending) (w' : World) : Prop :=
  ∃ (v : Value) (l : List V.Comp), l.length ≤ most ∧ V.compsTo l l.length = true ∧ e = .returned v ∧ CRow w' w.heap.size v l ∧ Tape w' b (k + 1 + 6 * most) ∧ w.grownBy w' (some b)

set_option maxRecDepth 100000 in
set_option maxHeartbeats 3200000 in
theorem comps_any (b k most : Nat) (w : World) (h : Tape w b k) (hk : k ≤ 10000) (hmost : most ≤ 100) :
    Calls Tryz.prog 52 #[.pointer (some ⟨b, 0, none⟩), .int .i64 most] w (CompsPost b k most w) := by
  have HT := Lib.hid h
  have hbw := h.lt
  clear h
  go_enter Tryz.func52, Tryz.ntmps52
  go_wp2_with fail
  refine (next_any b k ((most : Int) + 1) _ HT.out (by omega) (by omega) (by omega)).mono ?_
  rintro e w1 ⟨r, hr, rfl, ht1, hg1⟩
  have HT1 := Lib.hid ht1
  have HG1 := Lib.hid hg1
  have hrm : r ≤ most := by omega
  clear ht1 hg1
  go_wp2
  go_loopw [5, 6] (fun ov iv wr => ∃ (q : Nat) (l : List V.Comp), q ≤ r ∧ iv = .int .i64 q ∧ l.length + q ≤ r ∧ CRow wr w.heap.size ov l ∧ V.compsTo l l.length = true ∧ Tape wr b (k + 1 + 6 * (r - q)) ∧ w.grownBy wr (some b)) (fun _ iv _ => (intOf iv).toNat)
  case atStart => exact ⟨r, [], Nat.le_refl _, rfl, by simp, CRow.nil _ _, rfl, HT1.out.le (by omega), HG1.out⟩
  case round =>
    obtain ⟨q, l, hq, rfl, hlq, hcr, hto, htp, hgr⟩ := hrel
    have HCR := Lib.hid hcr
    have HTO := Lib.hid hto
    have HTP := Lib.hid htp
    have HGR := Lib.hid hgr
    have HBL := Lib.hid hcr.block
    obtain ⟨va, vc, hov, hjunk⟩ := hcr.comps
    subst hov
    clear hjunk
    clear hcr hto htp hgr
    by_cases hq0 : q = 0
    · subst hq0
      go_wp2
      go_ret
      exact ⟨_, l, by omega, HTO.out, rfl, HCR.out, HTP.out.le (by omega), HGR.out⟩
    · obtain ⟨p, rfl⟩ : ∃ p, q = p + 1 := ⟨q - 1, by omega⟩
      have hp0 : (0 : Int) < ((p + 1 : Nat) : Int) := by omega
      go_wp2_with fail
      refine (next_any b _ ((l.length : Int) + 1) _ HTP.out (by omega) (by omega) (by omega)).mono ?_
      rintro e w2 ⟨r2, hr2, rfl, ht2, hg2⟩
      have HT2 := Lib.hid ht2
      have HG2 := Lib.hid (World.grownBy.trans HGR.out hg2)
      have HC2 := Lib.hid (HCR.out.kept hg2 (by intro b' e; cases e; omega))
      clear ht2 hg2
      go_wp2_with fail
      refine (comp_any b _ ((r2 : Int) - 1) _ HT2.out (by omega) (WalkArith.wf_i64 (by omega))).mono ?_
      rintro e w3 ⟨c, hmd, rfl, ht3, hg3⟩
      have HMD := Lib.hid hmd
      have HT3 := Lib.hid ht3
      have HG3 := Lib.hid (World.grownBy.trans HG2.out hg3)
      have HC3 := Lib.hid (HC2.out.kept hg3 (by intro b' e; cases e; omega))
      clear hmd ht3 hg3
      go_wp2_with (first | (refine wl_store rfl _ _ rfl _ _ rfl c HMD.out.wf rfl rfl ?_) | fail)
      have hx4 := range_new c w3 66
      have hb4 : Below w3.heap.size w3 (w3.alloc (.cells (ccells c) 66)) := (Below.refl _ w3).alloc (Nat.le_refl _) _
      have hz4 : w3.heap.size < (w3.alloc (.cells (ccells c) 66)).heap.size := by simp
      have HT4 := Lib.hid (HT3.out.below hb4)
      have HG4 := Lib.hid (World.grownBy.trans HG3.out (below_grown hb4 (some b)))
      have HC4 : Hid (CRow (w3.alloc (.cells (ccells c) 66)) w.heap.size (.slice va l.length vc) l) := Lib.hid (HC3.out.kept (row := none) (below_grown hb4 none) (by intro b' e; cases e))
      generalize w3.alloc (.cells (ccells c) 66) = w4 at *
      obtain ⟨X, hXe⟩ : ∃ X, X = w3.heap.size := ⟨_, rfl⟩
      rw [← hXe] at hx4 hz4 ⊢
      have HX4 := Lib.hid hx4
      clear hXe hb4 hx4
      go_wp2
      go_loopw [8, 9] (fun ag jv wx => ∃ j : Nat, j ≤ l.length ∧ jv = .int .i64 j ∧ ag = .bool (decide (c ∈ l.take j)) ∧ Below w4.heap.size w4 wx) (fun _ jv _ => l.length - (intOf jv).toNat)
      case atStart => exact ⟨0, Nat.zero_le _, rfl, rfl, Below.refl _ _⟩
      case round =>
        obtain ⟨j, hj, rfl, rfl, hbx⟩ := hrel
        have HBX := Lib.hid hbx
        clear hbx
        by_cases hlt : j < l.length
        · have HTS := Lib.hid (take_mem_step (c := c) hlt)
          obtain ⟨hdw, g, off, rfl, hgl, hgr⟩ := HC4.out.comps.at j hlt
          have HDW := Lib.hid hdw
          have HDR := Lib.hid (rangeAt_below (rangeAt_below hgr HBX.out) (Below.refl _ wr).drew)
          have HXR : Hid (wr.drew.rangeAt X 0 (cellsL c)) := Lib.hid (rangeAt_below (rangeAt_below HX4.out HBX.out) (Below.refl _ wr).drew)
          clear hdw hgr
          generalize l[j] = d at *
          rcases hag : decide (c ∈ l.take j) with _ | _
          · rw [hag] at HTS
            clear hag
            go_wp2
            refine wp_region_still_lit (by kernel_rfl) (by kernel_rfl) ?_
            still_step
            still_step
            still_step
            still_step
            still_step
            refine wpStill_step (fun K hK => ?_)
            refine still_load rfl (.tmp 36) rfl g (off + j * 36) rfl d HDW.out HDR.out (hK _ ?_)
            clear hK K
            refine wpStill_step (fun K hK => ?_)
            refine still_load rfl (.tmp 7) rfl X 0 rfl c HMD.out.wf HXR.out (hK _ ?_)
            clear hK K
            refine wpStill_step (fun K hK => ?_)
            refine still_eql rfl (.tmp 37) (.tmp 38) rfl d c HDW.out HMD.out.wf rfl rfl (hK _ ?_)
            clear hK K
            still_step
            still_step
            refine wpStill_nil ?_
            have HBD := Lib.hid HBX.out.drew
            change Exit.inBlock _ _ _ _ wr.drew
            go_wp2
            go_roundw
            case rel => exact ⟨j + 1, by omega, by go_num, by rw [HTS.out]; rfl, HBD.out⟩
            case measure => simp [intOf]; omega
          · rw [hag] at HTS
            clear hag
            go_wp2
            refine wp_region_any (by kernel_rfl) ?_
            change wpAny _ _ _ _ _ _ _ (World.drew _)
            refine wpAny_take (i := 0) (v := .bool true) rfl (by kernel_rfl) (by kernel_rfl) (by kernel_rfl) (fun _ _ _ h => h) (Or.inl ⟨by rfl, fun w => by go_simp⟩) ?_
            refine wpAny_take (i := 1) (v := .bool true) rfl (by kernel_rfl) (by kernel_rfl) (by kernel_rfl) (fun _ _ _ h => h) (Or.inl ⟨by rfl, fun w => by go_simp⟩) ?_
            simp only [List.getElem_toArray, List.getElem_cons_succ, List.getElem_cons_zero, Act.put, List.setIfInBounds_toArray, List.set_cons_succ, List.set_cons_zero]
            refine wpAny_take (i := 2) (v := undef) rfl (by kernel_rfl) (by kernel_rfl) (by kernel_rfl) (fun _ _ _ h => h) (Or.inr ⟨by rfl, rfl⟩) ?_
            refine wpAny_take (i := 3) (v := undef) rfl (by kernel_rfl) (by kernel_rfl) (by kernel_rfl) (fun _ _ _ h => h) (Or.inr ⟨by rfl, rfl⟩) ?_
            refine wpAny_take (i := 4) (v := undef) rfl (by kernel_rfl) (by kernel_rfl) (by kernel_rfl) (fun _ _ _ h => h) (Or.inr ⟨by rfl, rfl⟩) ?_
            refine wpAny_take (i := 5) (v := undef) rfl (by kernel_rfl) (by kernel_rfl) (by kernel_rfl) (fun _ _ _ h => h) (Or.inr ⟨by rfl, rfl⟩) ?_
            refine wpAny_take (i := 6) (v := undef) rfl (by kernel_rfl) (by kernel_rfl) (by kernel_rfl) (fun _ _ _ h => h) (Or.inr ⟨by rfl, rfl⟩) ?_
            refine wpAny_take (i := 7) (v := undef) rfl (by kernel_rfl) (by kernel_rfl) (by kernel_rfl) (fun _ _ _ h => h) (Or.inr ⟨by rfl, rfl⟩) ?_
            simp only [List.getElem_toArray, List.getElem_cons_succ, List.getElem_cons_zero, Act.put, List.setIfInBounds_toArray, List.set_cons_succ, List.set_cons_zero]
            refine wpAny_take (i := 8) (v := .bool true) rfl (by kernel_rfl) (by kernel_rfl) (by kernel_rfl) (fun _ _ _ h => h) (Or.inl ⟨by rfl, fun w => by go_simp⟩) ?_
            simp only [List.getElem_toArray, List.getElem_cons_succ, List.getElem_cons_zero, Act.put, List.setIfInBounds_toArray, List.set_cons_succ, List.set_cons_zero]
            refine wpAny_take (i := 9) (v := .bool true) rfl (by kernel_rfl) (by kernel_rfl) (by kernel_rfl) (fun _ _ _ h => h) (Or.inl ⟨by rfl, fun w => by go_simp⟩) ?_
            refine wpAny_done (by kernel_rfl) ?_ _
            simp only [List.getElem_toArray, List.getElem_cons_succ, List.getElem_cons_zero, Act.put, List.setIfInBounds_toArray, List.set_cons_succ, List.set_cons_zero]
            have HBD := Lib.hid HBX.out.drew
            change Exit.inBlock _ _ _ _ wr.drew
            go_wp2
            go_roundw
            case rel => exact ⟨j + 1, by omega, by go_num, by rw [HTS.out]; rfl, HBD.out⟩
            case measure => simp [intOf]; omega
        · obtain rfl : j = l.length := by omega
          rw [List.take_length]
          have HT5 := Lib.hid (HT4.out.below HBX.out)
          have HG5 := Lib.hid (World.grownBy.trans HG4.out (below_grown HBX.out (some b)))
          have HC5 : Hid (CRow wr w.heap.size (.slice va l.length vc) l) := Lib.hid (HC4.out.kept (row := none) (below_grown HBX.out none) (by intro b' e; cases e))
          have HX5 := Lib.hid (rangeAt_below HX4.out HBX.out)
          rcases hag : decide (c ∈ l) with _ | _
          · have HNI : Hid (c ∉ l) := Lib.hid (of_decide_eq_false hag)
            have hwN : w.heap.size ≤ (wr.alloc (.cells (ccells c) 66)).heap.size := by have := HG5.out.size; simp; omega
            have hb6 : Below wr.heap.size wr (wr.alloc (.cells (ccells c) 66)) := (Below.refl _ wr).alloc (Nat.le_refl _) _
            have HC6 : Hid (CRow (wr.alloc (.cells (ccells c) 66)) w.heap.size (.slice va l.length vc) l) := Lib.hid (HC5.out.kept (row := none) (below_grown hb6 none) (by intro b' e; cases e))
            clear hag
            go_wp2_with (first | (refine wl_load rfl _ rfl X 0 rfl c HMD.out.wf HX5.out ?_) | (refine wl_build1 rfl _ rfl c HMD.out.wf rfl ?_) | (refine wl_appendC rfl _ _ rfl w.heap.size (.slice va l.length vc) l rfl HC6.out wr.heap.size c HMD.out.wf rfl (range_new c wr _) (by omega) hwN ?_; intro v' w7 hc7 hg7) | fail)
            have HC7 := Lib.hid hc7
            have hrow : ∀ g, (Value.slice va l.length vc).ownBlock = some g → w.heap.size ≤ g := HBL.out
            have hgb := grown_own (World.grownBy.trans HG5.out (below_grown hb6 (some b))) hg7 hrow
            have HG7 := Lib.hid hgb
            have HT7 := Lib.hid ((HT5.out.below hb6).grown hg7 (fun e => by have := hrow b e; omega) (fun g e => by have := hrow g e; omega))
            have HTO7 : Hid (V.compsTo (l ++ [c]) (l ++ [c]).length = true) := Lib.hid (compsTo_more HTO.out HMD.out.ok (by rw [HMD.out.par]; omega) (by rw [HMD.out.par]; omega) HNI.out)
            clear hc7 hg7 hgb hb6 hwN
            go_wp2
            go_roundw
            case rel => exact ⟨p, l ++ [c], by omega, by go_num, by simp; omega, HC7.out, HTO7.out, HT7.out.le (by omega), HG7.out⟩
            case measure => simp [intOf]
          · clear hag
            go_wp2
            go_roundw
            case rel => exact ⟨p, l, by omega, by go_num, by omega, HC5.out, HTO.out, HT5.out.le (by omega), HG5.out⟩
            case measure => simp [intOf]
end Go.Proofs.YtpjjkbdkgaehkaaGreatDoor
namespace Go.Proofs.YtpjjkbdkgaehkaaGreatDoor
open Go.RowKit

theorem invInfo : (Tryz.prog.info? 26).map (·.size) = some 34 := by kernel_rfl
theorem icells_size {d : List Int} (hd : d.length = 32) (time : Int) (v : Value) : (icells d time v).size = 34 := by
  unfold icells dcellsL
  simp [hd]
theorem icells_one {d : List Int} {time : Int} {v : Value} (hv : v.oneCell' = true) : (icells d time v).all (·.oneCell') = true := by
  rw [Array.all_eq_true_iff_forall_mem]
  intro u hu
  unfold icells dcellsL at hu
  simp at hu
  rcases hu with ⟨n, _, rfl⟩ | rfl | rfl
  · rfl
  · rfl
  · exact hv
theorem CRow.less {w : World} {N M : Nat} {v : Value} {l : List V.Comp} (h : CRow w N v l) (hM : M ≤ N) : CRow w M v l := by
  obtain ⟨⟨hx, h⟩, hw⟩ := h
  refine ⟨⟨hx, ?_⟩, hw⟩
  rcases h with h | ⟨g, cap, cur, h1, h2, h3⟩
  · exact .inl h
  · exact .inr ⟨g, cap, cur, h1, Nat.le_trans hM h2, h3⟩
theorem Comps.one {w : World} {v : Value} {l : List V.Comp} (h : Comps w v l) : v.oneCell' = true := by
  obtain ⟨a, cap, rfl, _⟩ := h
  rfl

theorem zero_inv : (#[Value.int .u8 0, .int .u8 0, .int .u8 0, .int .u8 0, .int .u8 0, .int .u8 0, .int .u8 0, .int .u8 0, .int .u8 0, .int .u8 0, .int .u8 0, .int .u8 0, .int .u8 0, .int .u8 0, .int .u8 0, .int .u8 0, .int .u8 0, .int .u8 0, .int .u8 0, .int .u8 0, .int .u8 0, .int .u8 0, .int .u8 0, .int .u8 0, .int .u8 0, .int .u8 0, .int .u8 0, .int .u8 0, .int .u8 0, .int .u8 0, .int .u8 0, .int .u8 0, .int .i64 0, .slice none 0 0] : Array Value) = icells zero32 0 (.slice none 0 0) := rfl

theorem lit_inv (r : Int) (v : Value) : (#[Value.int .u8 1, .int .u8 0, .int .u8 0, .int .u8 0, .int .u8 0, .int .u8 0, .int .u8 0, .int .u8 0, .int .u8 0, .int .u8 0, .int .u8 0, .int .u8 0, .int .u8 0, .int .u8 0, .int .u8 0, .int .u8 0, .int .u8 0, .int .u8 0, .int .u8 0, .int .u8 0, .int .u8 0, .int .u8 0, .int .u8 0, .int .u8 0, .int .u8 0, .int .u8 0, .int .u8 0, .int .u8 0, .int .u8 0, .int .u8 0, .int .u8 0, .int .u8 0, .int .i64 r, v] : Array Value) = icells (dig1 1) r v := rfl

/-- an inventory that was made -/
structure InvMade (w : World) (N : Nat) (time : Int) (v : Value) (l : List V.Comp) : Prop where
  time0 : 0 ≤ time
  time9 : time < 9
  len : l.length ≤ 8
  ok : V.compsTo l l.length = true
  row : CRow w N v l
theorem InvMade.valid {w : World} {N : Nat} {time : Int} {v : Value} {l : List V.Comp} (h : InvMade w N time v l) : V.invOk (dig1 1) time l = true := by
  have := h.time0
  have := h.time9
  have := h.len
  rw [inv_rest (by decide) (by omega) (by omega) (by omega)]
  exact h.ok

def MadePost (b k : Nat) (w : World) (e : Ending) (w' : World) : Prop :=
  ∃ (time : Int) (v : Value) (l : List V.Comp), InvMade w' w.heap.size time v l ∧ e = .returned (.agg (icells (dig1 1) time v)) ∧ Tape w' b (k + 50) ∧ w.grownBy w' (some b)

set_option maxRecDepth 100000 in
set_option maxHeartbeats 1600000 in
theorem made_any (b k : Nat) (w : World) (h : Tape w b k) (hk : k ≤ 1000) :
    Calls Tryz.prog 23 #[.pointer (some ⟨b, 0, none⟩)] w (MadePost b k w) := by
  have HT := Lib.hid h
  have hbw := h.lt
  clear h
  go_enter Tryz.func23, Tryz.ntmps23
  go_wp2_with fail
  rw [zero_inv]
  obtain ⟨W0, hW0⟩ : ∃ W0, W0 = w.alloc (.cells (icells zero32 0 (.slice none 0 0)) 26) := ⟨_, rfl⟩
  have hg0 : W0.heap[w.heap.size]? = some (.cells (icells zero32 0 (.slice none 0 0)) 26 (0, 0)) := by rw [hW0]; exact heap_alloc_new w _
  have hz0 : W0.heap.size = w.heap.size + 1 := by rw [hW0]; simp
  have hb0 : Below w.heap.size w W0 := by rw [hW0]; exact (Below.refl _ w).alloc (Nat.le_refl _) _
  rw [← hW0]
  clear hW0
  refine (next_any b k 9 _ (HT.out.below hb0) (by omega) (by omega) (by omega)).mono ?_
  rintro e w1 ⟨r, hr, rfl, ht1, hg1⟩
  have HG1 := Lib.hid (World.grownBy.trans (below_grown hb0 (some b)) hg1)
  have HT1 := Lib.hid ht1
  have hz1 : w.heap.size < w1.heap.size := Nat.lt_of_lt_of_le (by omega) hg1.size
  have HR1 : Hid (w1.heap[w.heap.size]? = some (.cells (icells zero32 0 (.slice none 0 0)) 26 (0, 0))) := Lib.hid ((hg1.block _ (by omega) (by simp; omega)).trans hg0)
  clear hg0 hz0 hb0 ht1 hg1
  go_wp2_with fail
  refine (comps_any b (k + 1) 8 _ HT1.out (by omega) (by omega)).mono ?_
  rintro e w2 ⟨v, l, hl, hto, rfl, hcr, ht2, hg2⟩
  obtain ⟨va, vc, hve, hjunk⟩ := hcr.comps
  subst hve
  clear hjunk
  have hcl : CRow w2 w.heap.size (.slice va l.length vc) l := hcr.less (by omega)
  have HG2 := Lib.hid (World.grownBy.trans HG1.out hg2)
  have HT2 := Lib.hid ht2
  have HR2 := Lib.hid ((hg2.block _ hz1 (by simp; omega)).trans HR1.out)
  have hv1 := hcl.comps.one
  have HC2 : Hid (CRow (w2.setRow w.heap.size (icells (dig1 1) r (.slice va l.length vc))) w.heap.size (.slice va l.length vc) l) := Lib.hid (by
    have hcl2 : CRow w2 (w.heap.size + 1) (.slice va l.length vc) l := hcr.less (by omega)
    exact (hcl2.kept (setRow_grown w2 w.heap.size _) (by intro g e; cases e; omega)).less (by omega))
  have HIN : Hid ((Tryz.prog.info? 26).map (·.size) = some (icells (dig1 1) r (.slice va l.length vc)).size) := Lib.hid (by rw [invInfo, icells_size rfl])
  have HS : Hid ((icells zero32 0 (.slice none 0 0)).size = (icells (dig1 1) r (.slice va l.length vc)).size) := Lib.hid (by rw [icells_size rfl, icells_size rfl])
  have HO := Lib.hid (icells_one (d := dig1 1) (time := r) hv1)
  have HTO := Lib.hid hto
  clear hcr ht2 hg2 hto hcl hv1
  go_wp2_with (first | ((refine wpList_store_row rfl _ _ _ rfl w.heap.size (icells (dig1 1) r (.slice va l.length vc)) ?hx ?hy 26 _ HR2.out HIN.out HS.out HO.out ?hr); (case hx => rfl); (case hy => exact congrArg Value.agg (lit_inv _ _))) | fail)
  refine bodyPost_ret (v := .agg (icells (dig1 1) r (.slice va l.length vc))) ?_ rfl ⟨r, .slice va l.length vc, l, ⟨by omega, by omega, hl, HTO.out, HC2.out⟩, rfl, ?_, ?_⟩
  · exact results_one Tryz.results23 rfl (run_loadVar_row _ w.heap.size _ _ _ (0, 0) _ (setRow_heap w2 w.heap.size _ _ _ _ HR2.out) Tryz.underlying26 rfl HIN.out)
  · exact (HT2.out.grown (setRow_grown w2 w.heap.size _) (by simp; omega) (by intro b' e; cases e; omega)).le (by omega)
  · exact grown_new HG2.out (setRow_grown _ _ _) (Nat.le_refl _)
end Go.Proofs.YtpjjkbdkgaehkaaGreatDoor
namespace Go.Proofs.YtpjjkbdkgaehkaaGreatDoor
open Go.RowKit

theorem CRow.kept2 {w w' : World} {N : Nat} {v : Value} {l : List V.Comp} (h : CRow w N v l) {row : Option Nat} (hg : w.grownBy w' row) (hr : ∀ b, row = some b → v.ownBlock ≠ some b) : CRow w' N v l := by
  obtain ⟨⟨hx, h⟩, hw⟩ := h
  refine ⟨⟨hx, ?_⟩, hw⟩
  rcases h with h | ⟨g, cap, cur, rfl, hb, hgg, rest⟩
  · exact .inl h
  · refine .inr ⟨g, cap, cur, rfl, hb, ?_, rest⟩
    rw [hg.block g (Array.getElem?_eq_some_iff.1 hgg).1 (fun e => hr g e.symm rfl)]
    exact hgg
theorem CRow.heap {w : World} {N : Nat} {v : Value} {l : List V.Comp} (h : CRow w N v l) {g : Nat} (hb : v.ownBlock = some g) : ∃ cur, w.heap[g]? = some (.cells cur 66 (0, 0)) := by
  obtain ⟨⟨_, h⟩, _⟩ := h
  rcases h with ⟨rfl, _⟩ | ⟨g', cap, cur, rfl, _, hg, _⟩
  · cases hb
  · simp [Value.ownBlock] at hb
    subst hb
    exact ⟨cur, hg⟩
theorem CRow.lt {w : World} {N : Nat} {v : Value} {l : List V.Comp} (h : CRow w N v l) {g : Nat} (hb : v.ownBlock = some g) : g < w.heap.size := by
  obtain ⟨cur, hc⟩ := h.heap hb
  exact (Array.getElem?_eq_some_iff.1 hc).1
theorem CRow.ne {w : World} {N : Nat} {v : Value} {l : List V.Comp} (h : CRow w N v l) {g : Nat} {cs : Array Value} {t : TypeId} {fr : Nat × Nat} (hg : w.heap[g]? = some (.cells cs t fr)) (ht : t ≠ 66) : v.ownBlock ≠ some g := fun hb => by
  obtain ⟨cur, hc⟩ := h.heap hb
  rw [hc] at hg
  cases hg
  exact ht rfl

theorem inv_range {d : List Int} {time : Int} {v : Value} (hd : d.length = 32) {w : World} {g : Nat} {t : TypeId} (hg : w.heap[g]? = some (.cells (icells d time v) t (0, 0))) : w.rangeAt g 0 (dcellsL d) := by
  intro i u hu
  rw [cell_of_row w g (0 + i) _ _ _ hg]
  have hi := (List.getElem?_eq_some_iff.1 hu).1
  have h32 : (dcellsL d).length = 32 := by unfold dcellsL; simp [hd]
  unfold icells
  rw [Nat.zero_add, List.getElem?_toArray, List.getElem?_append_left (by omega)]
  exact hu
theorem setCell_heap {w : World} {g : Nat} {cs : Array Value} {t : TypeId} {fr : Nat × Nat} (o : Nat) (v : Value) (hg : w.heap[g]? = some (.cells cs t fr)) : (w.setCell ⟨g, o, none⟩ v).heap[g]? = some (.cells (cs.setIfInBounds o v) t fr) := by
  have hlt := (Array.getElem?_eq_some_iff.1 hg).1
  have hv := (Array.getElem?_eq_some_iff.1 hg).2
  unfold World.setCell
  rw [Array.getElem?_eq_getElem (by simpa using hlt), Array.getElem_modify]
  simp [hv]
theorem icells_set33 {d : List Int} (hd : d.length = 32) (time : Int) (v u : Value) : (icells d time v).setIfInBounds 33 u = icells d time u := by
  have h32 : (dcellsL d).length = 32 := by unfold dcellsL; simp [hd]
  unfold icells
  rw [List.setIfInBounds_toArray, List.set_append_right _ _ (by omega), h32]
  rfl
theorem ccells_set0 (c : V.Comp) (p : Int) : (ccells c).setIfInBounds 0 (.int .i64 p) = ccells { c with par := p } := by
  unfold ccells cellsL
  simp
theorem frozen_row {w : World} {g o : Nat} {cs : Array Value} {t : TypeId} (hg : w.heap[g]? = some (.cells cs t (0, 0))) : w.frozen? ⟨g, o, none⟩ = false := by
  simp [World.frozen?, hg]

theorem run_set {P : Program} {w : World} {b o : Nat} {ty : TypeId} {v u : Value} (hc : w.cell? ⟨b, o, none⟩ = some u) (hf : w.frozen? ⟨b, o, none⟩ = false) (hi : (P.info? ty).map (·.size) = some 1) (h1 : v.oneCell' = true) :
    (storeVar ty ⟨b, o, none⟩ v).run P w = .ok () (w.setCell ⟨b, o, none⟩ v) := by
  have := run_storeCells_cells (P := P) b o [v] 0 w (fun j hj => by obtain rfl : j = 0 := by simpa using hj
                                                                    simp [hc]) (fun j hj => by obtain rfl : j = 0 := by simpa using hj
                                                                                               simp [hf]) (fun x hx => by simp at hx; subst hx; exact h1)
  have hcs : v.cells = #[v] := by cases v <;> first | rfl | cases h1
  cases hq : P.info? ty with
  | none => simp [hq] at hi
  | some i =>
    have hs : i.size = 1 := by simpa [hq] using hi
    simp only [Nat.add_zero] at this
    simp [storeVar, sizeOf, typeInfo, hq, hcs, hs, this]
    rfl
/-- at the operation: one cell stored -/
theorem wl_set {ops : Array Oper} {rest : List Oper} {o : Oper} {a : Act} {w : World} {Q : Exit → Act → World → Prop} (hgd : o.guard = none) (ty : TypeId) (x y : Operand) (ho : o.op = .store ty x y)
    (b off : Nat) (hx : a.eval x = .pointer (some ⟨b, off, none⟩)) (v : Value) (hy : a.eval y = v) (u : Value) (hc : w.cell? ⟨b, off, none⟩ = some u) (hf : w.frozen? ⟨b, off, none⟩ = false) (hi : (Tryz.prog.info? ty).map (·.size) = some 1) (h1 : v.oneCell' = true)
    (h : wpList Tryz.prog ops Q rest (a.put o.dst undef) (w.setCell ⟨b, off, none⟩ v)) : wpList Tryz.prog ops Q (o :: rest) a w :=
  wpList_plain hgd fun K hK => by
    unfold Oper.wp execOp
    simp only [ho, hx, hy, Instr.storeAt, Instr.sureAddr, Sem.run_bind, Sem.run_pure, Result.andThen_ok, run_set hc hf hi h1]
    exact hK _ _ h
theorem int_size : (Tryz.prog.info? 3).map (·.size) = some 1 := by kernel_rfl
theorem comps_size : (Tryz.prog.info? 24).map (·.size) = some 1 := by kernel_rfl
theorem nat_wf {m : Nat} (h : m ≤ 1000000) : (Lit.int .i64 (m : Int)).wf = true := by
  simp [Lit.wf, IntKind.min, IntKind.max, IntKind.signed, IntKind.bits]; omega
/-- what the loop of a merge keeps -/
structure MInv (w : World) (N O S n : Nat) (d : List Int) (mx : Int) (v : Value) (out : List V.Comp) (st : List Int) (W : World) : Prop where
  row : CRow W N v out
  inv : W.heap[O]? = some (.cells (icells d mx v) 26 (0, 0))
  stands : ∃ cur, W.heap[S]? = some (.cells cur 3 (0, 0)) ∧ cur.size = n ∧ st.length ≤ n ∧ ∀ (j : Nat) x, st[j]? = some x → cur[j]? = some (.int .i64 x)
  zero : W.heap[w.heap.size + 1 + 1]? = some (.cells (icells zero32 0 (.slice none 0 0)) 26 (0, 0))
  below : Below w.heap.size w W
  size : N ≤ W.heap.size
  base : w.heap.size + 3 ≤ N
  hO : N ≤ O
  hS : N ≤ S
namespace MInv
variable {w : World} {N O S n : Nat} {d : List Int} {mx : Int} {v : Value} {out : List V.Comp} {st : List Int} {W W' : World}
theorem ne (h : MInv w N O S n d mx v out st W) : O ≠ S := fun e => by
  subst e
  obtain ⟨cur, hc, _⟩ := h.stands
  have hi := h.inv
  rw [hc] at hi
  cases hi
theorem keep (h : MInv w N O S n d mx v out st W) {row : Option Nat} (hg : W.grownBy W' row) (hr : ∀ b, row = some b → w.heap.size + 3 ≤ b ∧ b ≠ O ∧ b ≠ S ∧ v.ownBlock ≠ some b) : MInv w N O S n d mx v out st W' := by
  have hl : ∀ k, k < W.heap.size → (∀ b, row = some b → b ≠ k) → W'.heap[k]? = W.heap[k]? := fun k hk hb => hg.block k hk (fun e => hb k e.symm rfl)
  obtain ⟨cur, h1, h2⟩ := h.stands
  refine ⟨h.row.kept2 hg (fun b hb => (hr b hb).2.2.2), ?_, ⟨cur, ?_, h2⟩, ?_, ?_, Nat.le_trans h.size hg.size, h.base, h.hO, h.hS⟩
  · rw [hl O (Array.getElem?_eq_some_iff.1 h.inv).1 (fun b hb => (hr b hb).2.1)]; exact h.inv
  · rw [hl S (Array.getElem?_eq_some_iff.1 h1).1 (fun b hb => (hr b hb).2.2.1)]; exact h1
  · rw [hl _ (Array.getElem?_eq_some_iff.1 h.zero).1 (fun b hb => by have := (hr b hb).1; omega)]; exact h.zero
  · refine h.below.trans ⟨hg.os, hg.tape, hg.output, hg.size, fun k hk => hl k (by have := h.size; have := h.base; omega) (fun b hb => by have := (hr b hb).1; omega)⟩
/-- a call, a new block -/
theorem call (h : MInv w N O S n d mx v out st W) (hb : Below W.heap.size W W') : MInv w N O S n d mx v out st W' :=
  h.keep (below_grown hb none) (fun b e => by cases e)
theorem alloc (h : MInv w N O S n d mx v out st W) (o : Obj) : MInv w N O S n d mx v out st (W.alloc o) :=
  h.keep (World.grownBy_alloc W o none) (fun b e => by cases e)
/-- a block that lies behind its row and holds components changed -/
theorem other (h : MInv w N O S n d mx v out st W) {X : Nat} (hX : ∀ b, v.ownBlock = some b → b < X) {cs : Array Value} (hc : W.heap[X]? = some (.cells cs 66 (0, 0))) (hx : w.heap.size + 3 ≤ X) (hg : W.grownBy W' (some X)) : MInv w N O S n d mx v out st W' := by
  refine h.keep hg (fun b e => ?_)
  cases e
  obtain ⟨cur, h1, h2⟩ := h.stands
  refine ⟨hx, ?_, ?_, fun e => by have := hX _ e; omega⟩
  · intro e; subst e; have := h.inv; rw [hc] at this; cases this
  · intro e; subst e; rw [hc] at h1; cases h1
/-- a place stored behind the others -/
theorem push (h : MInv w N O S n d mx v out st W) (hk : st.length < n) (x : Int) : MInv w N O S n d mx v out (st ++ [x]) (W.setCell ⟨S, st.length, none⟩ (.int .i64 x)) := by
  obtain ⟨cur, h1, h2, h3, h4⟩ := h.stands
  have hg := set_grown W S st.length (.int .i64 x)
  have hl : ∀ k, k < W.heap.size → k ≠ S → (W.setCell ⟨S, st.length, none⟩ (.int .i64 x)).heap[k]? = W.heap[k]? := fun k hk hb => hg.block k hk (fun e => by cases e; exact hb rfl)
  have hz := Array.getElem?_eq_some_iff.1 h.zero
  refine ⟨h.row.kept2 hg (fun b hb => by cases hb; exact h.row.ne h1 (by decide)), ?_, ⟨_, setCell_heap _ _ h1, by simp [h2], by simp; omega, ?_⟩, ?_, ?_, Nat.le_trans h.size hg.size, h.base, h.hO, h.hS⟩
  · rw [hl O (Array.getElem?_eq_some_iff.1 h.inv).1 h.ne]; exact h.inv
  · intro j y hj
    rcases Nat.lt_trichotomy j st.length with hlt | rfl | hgt
    · rw [List.getElem?_append_left hlt] at hj
      rw [Array.getElem?_setIfInBounds_ne (by omega)]
      exact h4 j y hj
    · rw [List.getElem?_append_right (Nat.le_refl _)] at hj
      simp at hj
      subst hj
      rw [Array.getElem?_setIfInBounds_self_of_lt (by omega)]
    · rw [List.getElem?_eq_none (by simp; omega)] at hj
      cases hj
  · rw [hl _ hz.1 (by have := h.hS; have := h.base; omega)]; exact h.zero
  · exact h.below.trans ⟨hg.os, hg.tape, hg.output, hg.size, fun k hk => hl k (by have := h.size; have := h.base; omega) (by have := h.hS; have := h.base; omega)⟩
/-- the last place stored anew -/
theorem last {x : Int} (h : MInv w N O S n d mx v out (st ++ [x]) W) (y : Int) : MInv w N O S n d mx v out (st ++ [y]) (W.setCell ⟨S, st.length, none⟩ (.int .i64 y)) := by
  obtain ⟨cur, h1, h2, h3, h4⟩ := h.stands
  have h5 : MInv w N O S n d mx v out st W := ⟨h.row, h.inv, ⟨cur, h1, h2, by simp at h3; omega, fun j z hj => h4 j z (by rw [List.getElem?_append_left (List.getElem?_eq_some_iff.1 hj).1]; exact hj)⟩, h.zero, h.below, h.size, h.base, h.hO, h.hS⟩
  exact h5.push (by simp at h3; omega) y
/-- a component appended -/
theorem append (hd : d.length = 32) (h : MInv w N O S n d mx v out st W) {v' : Value} {out' : List V.Comp} (hr : CRow W' N v' out') (hg : W.grownBy W' v.ownBlock) : MInv w N O S n d mx v' out' st (W'.setCell ⟨O, 33, none⟩ v') := by
  have hblk := h.row.block
  obtain ⟨cur, h1, h2⟩ := h.stands
  have hl : ∀ k, k < W.heap.size → v.ownBlock ≠ some k → W'.heap[k]? = W.heap[k]? := fun k hk hb => hg.block k hk (fun e => hb e.symm)
  have hi : W'.heap[O]? = _ := (hl O (Array.getElem?_eq_some_iff.1 h.inv).1 (h.row.ne h.inv (by decide))).trans h.inv
  have hs : W'.heap[S]? = _ := (hl S (Array.getElem?_eq_some_iff.1 h1).1 (h.row.ne h1 (by decide))).trans h1
  have hz : W'.heap[w.heap.size + 1 + 1]? = _ := (hl _ (Array.getElem?_eq_some_iff.1 h.zero).1 (h.row.ne h.zero (by decide))).trans h.zero
  have hg2 := set_grown W' O 33 v'
  have hl2 : ∀ k, k < W'.heap.size → k ≠ O → (W'.setCell ⟨O, 33, none⟩ v').heap[k]? = W'.heap[k]? := fun k hk hb => hg2.block k hk (fun e => by cases e; exact hb rfl)
  refine ⟨hr.kept2 hg2 (fun b hb => by cases hb; exact hr.ne hi (by decide)), ?_, ⟨cur, ?_, h2⟩, ?_, ?_, Nat.le_trans h.size (Nat.le_trans hg.size hg2.size), h.base, h.hO, h.hS⟩
  · rw [setCell_heap _ _ hi, icells_set33 hd]
  · rw [hl2 S (Array.getElem?_eq_some_iff.1 hs).1 h.ne.symm]; exact hs
  · rw [hl2 _ (Array.getElem?_eq_some_iff.1 hz).1 (by have := h.hO; have := h.base; omega)]; exact hz
  · have hsz := h.size
    have hbs := h.base
    have hO := h.hO
    refine (h.below.trans ⟨hg.os, hg.tape, hg.output, hg.size, fun k hk => hl k (by omega) (fun e => by have := hblk k e; omega)⟩).trans ⟨hg2.os, hg2.tape, hg2.output, hg2.size, fun k hk => hl2 k (by have := hg.size; omega) (by omega)⟩
theorem invCell (hd : d.length = 32) (h : MInv w N O S n d mx v out st W) : W.cell? ⟨O, 33, none⟩ = some v := by
  rw [cell_of_row W O 33 _ _ _ h.inv]; exact icells_33 hd mx v
theorem standCell (h : MInv w N O S n d mx v out st W) {j : Nat} {x : Int} (hj : st[j]? = some x) : W.cell? ⟨S, j, none⟩ = some (.int .i64 x) := by
  obtain ⟨cur, h1, _, _, h4⟩ := h.stands
  rw [cell_of_row W S j _ _ _ h1]
  exact h4 j x hj
theorem standAny (h : MInv w N O S n d mx v out st W) {j : Nat} (hj : j < n) : ∃ u, W.cell? ⟨S, j, none⟩ = some u := by
  obtain ⟨cur, h1, h2, _, _⟩ := h.stands
  rw [cell_of_row W S j _ _ _ h1]
  exact ⟨_, Array.getElem?_eq_getElem (by omega)⟩
theorem standFree (h : MInv w N O S n d mx v out st W) (j : Nat) : W.frozen? ⟨S, j, none⟩ = false := by
  obtain ⟨cur, h1, _⟩ := h.stands
  exact frozen_row h1
theorem invKept (h : MInv w N O S n d mx v out st W) (hg : W.grownBy W' v.ownBlock) : W'.heap[O]? = some (.cells (icells d mx v) 26 (0, 0)) :=
  (hg.block O (Array.getElem?_eq_some_iff.1 h.inv).1 (fun e => h.row.ne h.inv (by decide) e.symm)).trans h.inv
theorem apart (h : MInv w N O S n d mx v out st W) {X : Nat} {cs : Array Value} {fr : Nat × Nat} (hX : W.heap[X]? = some (.cells cs 66 fr)) : X ≠ S := fun e => by
  subst e
  obtain ⟨cur, h1, _⟩ := h.stands
  rw [hX] at h1
  cases h1
end MInv
end Go.Proofs.YtpjjkbdkgaehkaaGreatDoor
