/-
  Walk: the law InventoryEncodes. (Printed by gen_DP.py.)
-/
import Derived.Test.YtpjjkbdkgaehkaaGreatDoorDM
import Derived.Test.YtpjjkbdkgaehkaaGreatDoorDN
import Derived.Test.YtpjjkbdkgaehkaaGreatDoorIU
import Derived.Test.YtpjjkbdkgaehkaaGreatDoorJN
import Derived.Lib.BufferRead
namespace Go.Proofs.YtpjjkbdkgaehkaaGreatDoor
open Go.RowKit

theorem ex_conv {o : Oper} {ev : Operand → Value} {w : World} {x : Operand} {v : Value} {s : ByteArray} (ho : o.op = .convert 30 9 x) (hx : ev x = v) (h : (convert 30 9 v).run Tryz.prog w = .ok (.string s) w) : (execOp ev o).run Tryz.prog w = .ok (.value (.string s)) w := by
  unfold execOp
  simp only [ho, hx, Sem.run_bind, h, Result.andThen_ok, Sem.run_pure]
theorem line_pos (x : List V.Bs) : 0 < (V.line x).length := by unfold V.line; simp
theorem conv_nil (w : World) : (convert 30 9 (.slice none 0 0)).run Tryz.prog w = .ok (.string ⟨#[]⟩) w :=
  Lib.run_convert_nil_bytes w _ _ _ 0 Tryz.underlying30 Tryz.underlying5 Tryz.underlying9
/-- what an Encode returned, as a string -/
theorem EncR.conv {d : List Int} {t : Int} {l : List V.Comp} {w w' : World} {e : Ending} (h : EncR d t l w e w') {ec : Int} {D : ByteArray} (hec : ec = if V.invOk d t l then 0 else 1) (hD : D = if V.invOk d t l then ⟨(V.doc (V.invLines d t l l.length)).toArray⟩ else ⟨#[]⟩) :
    ∃ u, e = .returned (.tuple #[u, .int .i64 ec]) ∧ Below w.heap.size w w' ∧ ∀ W, Below w'.heap.size w' W → (convert 30 9 u).run Tryz.prog W = .ok (.string D) W := by
  subst hec hD
  rcases hok : V.invOk d t l with _ | _
  · exact ⟨_, h.2.1 hok, h.2.2, fun W _ => conv_nil W⟩
  · obtain ⟨u, N, W0, rfl, hb⟩ := h.1 hok
    refine ⟨u, rfl, h.2.2, fun W hW => conv_buf (hb.below hW) ?_⟩
    unfold V.doc V.invLines
    rw [List.flatMap_cons, List.length_append]
    have := line_pos (V.headLine d t)
    omega

set_option maxRecDepth 100000 in
set_option maxHeartbeats 12800000 in
theorem inventoryEncodes_any (x0 : IV) (a : Option Addr) (m cap : Nat) (w : World) (hmx : MaxOk w) (hpw : PowOk w) (hd : x0.d.length = 32) (hw : ∀ n ∈ x0.d, (Lit.int .u8 n).wf = true) (hc : Comps w x0.v x0.l) (ht : Nums w a m) :
    Calls Tryz.prog 3 #[.agg (icells x0.d x0.t x0.v), .slice a m cap] w fun e w' => e = .returned (.bool true) ∧ Below w.heap.size w w' := by
  have HM := Lib.hid hmx
  have HP := Lib.hid hpw
  have HT := Lib.hid ht
  have H1 := Lib.hid (And.intro hd (And.intro hw hc))
  have HB0 := Lib.hid ((Below.refl w.heap.size w).alloc (Nat.le_refl _) (.cells (icells x0.d x0.t x0.v) 26))
  have HG0 : Hid ((w.alloc (.cells (icells x0.d x0.t x0.v) 26)).heap[w.heap.size]? = some (.cells (icells x0.d x0.t x0.v) 26 (0, 0))) := Lib.hid (heap_alloc_new w _)
  have HT0 : Hid (Nums (w.alloc (.cells (icells x0.d x0.t x0.v) 26)) a m) := Lib.hid (by
    obtain ⟨h1, h2⟩ := ht
    refine ⟨h1, fun j hj => ?_⟩
    obtain ⟨b, off, z, e, hlt, hcz, hz⟩ := h2 j hj
    exact ⟨b, off, z, e, Nat.lt_of_lt_of_le hlt HB0.out.size, (HB0.out.cell (p := ⟨b, off + j, none⟩) hlt).trans hcz, hz⟩)
  clear hmx hpw ht hd hw hc
  go_enter Tryz.func3, Tryz.ntmps3
  go_wp2_with (first | (refine wl_loadR rfl _ rfl w.heap.size 0 rfl x0 H1.out.1 (inv_rangeAll HG0.out) ?_) | fail)
  refine (inventories_any x0 a m cap _ H1.out.1 H1.out.2.1 (H1.out.2.2.below (HB0.out.mono (Nat.le_refl _))) HT0.out).mono ?_
  rintro e w1 ⟨v1, xs, rfl, hiv, hx3, hb1⟩
  have HIV := Lib.hid hiv
  have HB1 := Lib.hid (HB0.out.trans (hb1.mono HB0.out.size))
  obtain ⟨va, vc, hve, hjunk⟩ := hiv
  subst hve
  clear hjunk hb1 HT0 HG0 HB0
  go_wp2_with fail
  go_loopw [15] (fun jv wr => ∃ j : Nat, j ≤ xs.length ∧ jv = .int .i64 j ∧ Below w1.heap.size w1 wr) (fun jv _ => xs.length - (intOf jv).toNat)
  case atStart => exact ⟨0, Nat.zero_le _, rfl, Below.refl _ _⟩
  case round =>
    obtain ⟨j, hj, rfl, hbr⟩ := hrel
    have HBR := Lib.hid hbr
    have HBW := Lib.hid (HB1.out.trans (hbr.mono HB1.out.size))
    clear hbr
    by_cases hlt : j < xs.length
    · obtain ⟨a', cap', e', hat⟩ := HIV.out
      cases e'
      obtain ⟨hok, g, off, rfl, hgl, hr⟩ := hat j hlt
      have HX := Lib.hid (hok.below HBR.out)
      have HR := Lib.hid (rangeAt_below hr HBR.out)
      have hj1 : (0 : Int) ≤ (j : Int) := by omega
      have hj2 : (j : Int) < (xs.length : Int) := by omega
      have hox := hok.comps.one
      clear hok hr hat
      generalize xs[j] = x at *
      have hb2 : Below wr.heap.size wr (wr.alloc (.cells (icells x.d x.t x.v) 26)) := (Below.refl _ wr).alloc (Nat.le_refl _) _
      have HX2 := Lib.hid (HX.out.below hb2)
      have HG2 : Hid ((wr.alloc (.cells (icells x.d x.t x.v) 26)).heap[wr.heap.size]? = some (.cells (icells x.d x.t x.v) 26 (0, 0))) := Lib.hid (heap_alloc_new wr _)
      have HB2 := Lib.hid (HBR.out.trans (hb2.mono HBR.out.size))
      have hz2 : wr.heap.size < (wr.alloc (.cells (icells x.d x.t x.v) 26)).heap.size := by simp
      clear hb2
      obtain ⟨ec, hec⟩ : ∃ ec : Int, ec = if V.invOk x.d x.t x.l then 0 else 1 := ⟨_, rfl⟩
      obtain ⟨D, hD⟩ : ∃ D : ByteArray, D = if V.invOk x.d x.t x.l then ⟨(V.doc (V.invLines x.d x.t x.l x.l.length)).toArray⟩ else ⟨#[]⟩ := ⟨_, rfl⟩
      have HE := Lib.hid (And.intro hec hD)
      clear hec hD
      go_wp2_with (first | (refine wl_loadR rfl _ rfl g (off + j * 34) rfl x HX.out.hd HR.out ?_) | (refine wl_storeI rfl _ _ rfl _ rfl x HX.out.hd hox rfl rfl ?_; clear hox; generalize hww : wr.alloc (.cells (icells x.d x.t x.v) 26) = w2 at *; clear hww; generalize wr.heap.size = X at *) | (refine wl_loadR rfl _ rfl X 0 rfl x HX2.out.hd (inv_rangeAll HG2.out) ?_) | fail)
      have HBW2 := Lib.hid (HB1.out.trans (HB2.out.mono HB1.out.size))
      refine (invEncode_any x.d x.t x.v x.l w2 (HM.out.below HBW2.out) (HP.out.below HBW2.out) HX2.out.hd HX2.out.hdw HX2.out.comps (by have := HX2.out.len; unfold maxLen; omega)).mono ?_
      intro e w3 he
      obtain ⟨u1, rfl, hb3, hc1⟩ := he.conv HE.out.1 HE.out.2
      clear he
      have HC3 := Lib.hid hc1
      have HX3 := Lib.hid (HX2.out.below hb3)
      have HG3 := Lib.hid ((hb3.block X hz2).trans HG2.out)
      have hz3 : X < w3.heap.size := Nat.lt_of_lt_of_le hz2 hb3.size
      have HBW3 := Lib.hid (HBW2.out.trans (hb3.mono HBW2.out.size))
      have HB3 := Lib.hid (HB2.out.trans (hb3.mono HB2.out.size))
      clear hb3 hc1 HX2 HG2 HBW2 HB2 hz2
      go_wp2_with (refine wl_loadR rfl _ rfl X 0 rfl x HX3.out.hd (inv_rangeAll HG3.out) ?_)
      refine (rinvEncode_any x.d x.t x.v x.l w3 (HM.out.below HBW3.out) (HP.out.below HBW3.out) HX3.out.hd HX3.out.hdw HX3.out.comps (by have := HX3.out.len; unfold maxLen; omega)).mono ?_
      intro e w4 he
      obtain ⟨u2, rfl, hb4, hc2⟩ := he.conv HE.out.1 HE.out.2
      clear he
      have HX4 := Lib.hid (HX3.out.below hb4)
      have HG4 := Lib.hid ((hb4.block X hz3).trans HG3.out)
      have hz4 : X < w4.heap.size := Nat.lt_of_lt_of_le hz3 hb4.size
      have HBW4 := Lib.hid (HBW3.out.trans (hb4.mono HBW3.out.size))
      have HB4 := Lib.hid (HB3.out.trans (hb4.mono HB3.out.size))
      have HC2 := Lib.hid hc2
      have HC1 : Hid (∀ W, Below w4.heap.size w4 W → _) := Lib.hid (fun W hW => HC3.out W (hb4.trans (hW.mono hb4.size)))
      clear hb4 hc2 HC3 HX3 HG3 HBW3 HB3 hz3
      go_wp2_with fail
      refine wp_region_held_drew (S := (fun W' => Below w4.heap.size w4 W')) (by kernel_rfl) (by (try dsimp only); exact (Below.refl _ w4).drew) (fun hHeld => ?_)
      refine wpAnyH_take (i := 0) (v := (.agg (icells x.d x.t x.v))) rfl (by kernel_rfl) (by kernel_rfl) (by kernel_rfl) (fun _ _ _ h => h) (Or.inl ⟨by rfl, fun w' hSw => ex_load rfl rfl (load_invR (x := x) HX4.out.hd (inv_rangeAll (x := x) ((hSw.block X hz4).trans HG4.out)))⟩) (by assumption) ?_
      try simp only [List.getElem_toArray, List.getElem_cons_succ, List.getElem_cons_zero, Act.put, List.setIfInBounds_toArray, List.set_cons_succ, List.set_cons_zero]
      refine wpAnyH_take (i := 2) (v := (.agg (icells x.d x.t x.v))) rfl (by kernel_rfl) (by kernel_rfl) (by kernel_rfl) (fun _ _ _ h => h) (Or.inl ⟨by rfl, fun w' hSw => ex_load rfl rfl (load_invR (x := x) HX4.out.hd (inv_rangeAll (x := x) ((hSw.block X hz4).trans HG4.out)))⟩) (by assumption) ?_
      try simp only [List.getElem_toArray, List.getElem_cons_succ, List.getElem_cons_zero, Act.put, List.setIfInBounds_toArray, List.set_cons_succ, List.set_cons_zero]
      refine wpAnyH_ready (rs := [1]) (by kernel_rfl) (by simp) ?_
      refine AllReadyH.cons (o := _) rfl (fun K hK => ?_) AllReadyH.nil
      go_simp
      refine (valid19_any x.d x.t x.v x.l _ (HM.out.below (HBW4.out.trans (hHeld.mono HBW4.out.size))) HX4.out.hd HX4.out.hdw (HX4.out.below hHeld).comps (by have := HX4.out.len; unfold maxLen; omega)).mono ?_
      rintro e w5 ⟨rfl, hb5⟩
      try dsimp only
      refine hK.out _ _ ?_ (fun hHeld => ?_)
      · (try dsimp only); exact hHeld.trans (hb5.mono hHeld.size)
      clear hK K
      try simp only [List.getElem_toArray, List.getElem_cons_succ, List.getElem_cons_zero, Act.put, List.setIfInBounds_toArray, List.set_cons_succ, List.set_cons_zero]
      refine wpAnyH_ready (rs := [3]) (by kernel_rfl) (by simp) ?_
      refine AllReadyH.cons (o := _) rfl (fun K hK => ?_) AllReadyH.nil
      go_simp
      refine (rvalid19_any x.d x.t x.v x.l _ (HM.out.below (HBW4.out.trans (hHeld.mono HBW4.out.size))) HX4.out.hd HX4.out.hdw (HX4.out.below hHeld).comps (by have := HX4.out.len; unfold maxLen; omega)).mono ?_
      rintro e w6 ⟨rfl, hb6⟩
      try dsimp only
      refine hK.out _ _ ?_ (fun hHeld => ?_)
      · (try dsimp only); exact hHeld.trans (hb6.mono hHeld.size)
      clear hK K
      try simp only [List.getElem_toArray, List.getElem_cons_succ, List.getElem_cons_zero, Act.put, List.setIfInBounds_toArray, List.set_cons_succ, List.set_cons_zero]
      refine wpAnyH_take (i := 4) (v := (.bool false)) rfl (by kernel_rfl) (by kernel_rfl) (by kernel_rfl) (fun _ _ _ h => h) (Or.inl ⟨by rfl, fun w' hSw => by go_simp⟩) (by assumption) ?_
      try simp only [List.getElem_toArray, List.getElem_cons_succ, List.getElem_cons_zero, Act.put, List.setIfInBounds_toArray, List.set_cons_succ, List.set_cons_zero]
      refine wpAnyH_take (i := 5) (v := ?_) rfl (by kernel_rfl) (by kernel_rfl) (by kernel_rfl) (fun _ _ _ h => h) (Or.inl ⟨by rfl, ?_⟩) (by assumption) ?_
      rotate_left
      · (intro w' hSw; (try dsimp only at hSw); go_simp; try with_reducible rfl)
      try simp only [List.getElem_toArray, List.getElem_cons_succ, List.getElem_cons_zero, Act.put, List.setIfInBounds_toArray, List.set_cons_succ, List.set_cons_zero]
      refine wpAnyH_take (i := 6) (v := ?_) rfl (by kernel_rfl) (by kernel_rfl) (by kernel_rfl) (fun _ _ _ h => h) (Or.inl ⟨by rfl, ?_⟩) (by assumption) ?_
      rotate_left
      · (intro w' hSw; (try dsimp only at hSw); go_simp; try with_reducible rfl)
      try simp only [List.getElem_toArray, List.getElem_cons_succ, List.getElem_cons_zero, Act.put, List.setIfInBounds_toArray, List.set_cons_succ, List.set_cons_zero]
      refine wpAnyH_take (i := 7) (v := ?_) rfl (by kernel_rfl) (by kernel_rfl) (by kernel_rfl) (fun _ _ _ h => h) (Or.inl ⟨by rfl, ?_⟩) (by assumption) ?_
      rotate_left
      · (intro w' hSw; (try dsimp only at hSw); go_simp; try with_reducible rfl)
      try simp only [List.getElem_toArray, List.getElem_cons_succ, List.getElem_cons_zero, Act.put, List.setIfInBounds_toArray, List.set_cons_succ, List.set_cons_zero]
      refine wpAnyH_take (i := 8) (v := (.bool false)) rfl (by kernel_rfl) (by kernel_rfl) (by kernel_rfl) (fun _ _ _ h => h) (Or.inl ⟨by rfl, fun w' hSw => by go_simp⟩) (by assumption) ?_
      try simp only [List.getElem_toArray, List.getElem_cons_succ, List.getElem_cons_zero, Act.put, List.setIfInBounds_toArray, List.set_cons_succ, List.set_cons_zero]
      refine wpAnyH_take (i := 9) (v := ?_) rfl (by kernel_rfl) (by kernel_rfl) (by kernel_rfl) (fun _ _ _ h => h) (Or.inl ⟨by rfl, ?_⟩) (by assumption) ?_
      rotate_left
      · (intro w' hSw; (try dsimp only at hSw); go_simp; try with_reducible rfl)
      try simp only [List.getElem_toArray, List.getElem_cons_succ, List.getElem_cons_zero, Act.put, List.setIfInBounds_toArray, List.set_cons_succ, List.set_cons_zero]
      refine wpAnyH_take (i := 10) (v := ?_) rfl (by kernel_rfl) (by kernel_rfl) (by kernel_rfl) (fun _ _ _ h => h) (Or.inl ⟨by rfl, ?_⟩) (by assumption) ?_
      rotate_left
      · (intro w' hSw; (try dsimp only at hSw); go_simp; try with_reducible rfl)
      try simp only [List.getElem_toArray, List.getElem_cons_succ, List.getElem_cons_zero, Act.put, List.setIfInBounds_toArray, List.set_cons_succ, List.set_cons_zero]
      refine wpAnyH_take (i := 11) (v := ?_) rfl (by kernel_rfl) (by kernel_rfl) (by kernel_rfl) (fun _ _ _ h => h) (Or.inl ⟨by rfl, ?_⟩) (by assumption) ?_
      rotate_left
      · (intro w' hSw; (try dsimp only at hSw); go_simp; try with_reducible rfl)
      try simp only [List.getElem_toArray, List.getElem_cons_succ, List.getElem_cons_zero, Act.put, List.setIfInBounds_toArray, List.set_cons_succ, List.set_cons_zero]
      refine wpAnyH_take (i := 12) (v := (.string D)) rfl (by kernel_rfl) (by kernel_rfl) (by kernel_rfl) (fun _ _ _ h => h) (Or.inl ⟨by rfl, fun w' hSw => ex_conv rfl rfl (HC1.out _ hSw)⟩) (by assumption) ?_
      try simp only [List.getElem_toArray, List.getElem_cons_succ, List.getElem_cons_zero, Act.put, List.setIfInBounds_toArray, List.set_cons_succ, List.set_cons_zero]
      refine wpAnyH_take (i := 13) (v := ?_) rfl (by kernel_rfl) (by kernel_rfl) (by kernel_rfl) (fun _ _ _ h => h) (Or.inl ⟨by rfl, ?_⟩) (by assumption) ?_
      rotate_left
      · (intro w' hSw; (try dsimp only at hSw); go_simp; try with_reducible rfl)
      try simp only [List.getElem_toArray, List.getElem_cons_succ, List.getElem_cons_zero, Act.put, List.setIfInBounds_toArray, List.set_cons_succ, List.set_cons_zero]
      refine wpAnyH_take (i := 14) (v := (.string D)) rfl (by kernel_rfl) (by kernel_rfl) (by kernel_rfl) (fun _ _ _ h => h) (Or.inl ⟨by rfl, fun w' hSw => ex_conv rfl rfl (HC2.out _ hSw)⟩) (by assumption) ?_
      try simp only [List.getElem_toArray, List.getElem_cons_succ, List.getElem_cons_zero, Act.put, List.setIfInBounds_toArray, List.set_cons_succ, List.set_cons_zero]
      refine wpAnyH_take (i := 15) (v := (.bool false)) rfl (by kernel_rfl) (by kernel_rfl) (by kernel_rfl) (fun _ _ _ h => h) (Or.inl ⟨by rfl, fun w' hSw => by go_simp⟩) (by assumption) ?_
      try simp only [List.getElem_toArray, List.getElem_cons_succ, List.getElem_cons_zero, Act.put, List.setIfInBounds_toArray, List.set_cons_succ, List.set_cons_zero]
      refine wpAnyH_take (i := 16) (v := ?_) rfl (by kernel_rfl) (by kernel_rfl) (by kernel_rfl) (fun _ _ _ h => h) (Or.inl ⟨by rfl, ?_⟩) (by assumption) ?_
      rotate_left
      · (intro w' hSw; (try dsimp only at hSw); go_simp; try with_reducible rfl)
      try simp only [List.getElem_toArray, List.getElem_cons_succ, List.getElem_cons_zero, Act.put, List.setIfInBounds_toArray, List.set_cons_succ, List.set_cons_zero]
      refine wpAnyH_done (by kernel_rfl) ?_ _
      have HB9 := Lib.hid (HB4.out.trans (hHeld.mono HB4.out.size))
      clear hHeld hb5 hb6
      go_wp2
      go_roundw
      case rel => exact ⟨j + 1, by omega, by go_num, HB9.out⟩
      case measure => simp [intOf]; omega
    · obtain rfl : j = xs.length := by omega
      go_wp2_with fail
      refine (awake19_any _ (HM.out.below HBW.out)).mono ?_
      rintro e w9 ⟨rfl, hb9⟩
      have HB9 := Lib.hid (HBW.out.trans (hb9.mono HBW.out.size))
      clear hb9
      go_wp2
      go_ret
      exact ⟨ret_bool rfl, HB9.out⟩
end Go.Proofs.YtpjjkbdkgaehkaaGreatDoor
