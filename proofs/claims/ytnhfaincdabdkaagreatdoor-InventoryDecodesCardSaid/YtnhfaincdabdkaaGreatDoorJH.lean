/-
  Walk: the reference's Parse of digests.
  Walk: the maker of components.
-/
import Derived.Test.YtnhfaincdabdkaaGreatDoorDG
import Derived.Test.YtnhfaincdabdkaaGreatDoorLJ
import Derived.Test.YtnhfaincdabdkaaGreatDoorDC
namespace Go.Proofs.YtnhfaincdabdkaaGreatDoor
open Go.RowKit

set_option maxRecDepth 100000 in
set_option maxHeartbeats 3200000 in
theorem rParse_any (s : ByteArray) (w : World) (_hs : s.size ≤ maxLen) : Calls Tryz.prog 50 #[.string s] w (DigPost s.data.toList w) := by
  have hb0 : Below w.heap.size w ((w.alloc (.cells (cells32 []) 24)).alloc (.cells (cells32 []) 24)) := ((Below.refl _ w).alloc (Nat.le_refl _) _).alloc (by simp) _
  have hg0 : ((w.alloc (.cells (cells32 []) 24)).alloc (.cells (cells32 []) 24)).heap[w.heap.size]? = some (.cells (cells32 []) 24 (0, 0)) := by
    rw [Below.heap_alloc _ _ _ (by simp)]; exact heap_alloc_new w _
  have hg1 : ((w.alloc (.cells (cells32 []) 24)).alloc (.cells (cells32 []) 24)).heap[w.heap.size + 1]? = some (.cells (cells32 []) 24 (0, 0)) := by
    have := heap_alloc_new (w.alloc (.cells (cells32 []) 24)) (.cells (cells32 []) 24); simpa using this
  have hl := bs_size s
  unfold maxLen at _hs
  have HB0 := Lib.hid hb0
  have HG0 := Lib.hid hg0
  have HG1 := Lib.hid hg1
  have HZI : Hid ((Tryz.prog.info? 24).map (·.size) = some (cells32 []).size) := Lib.hid (by rw [digInfo]; rfl)
  have hz2 : ((w.alloc (.cells (cells32 []) 24)).alloc (.cells (cells32 []) 24)).heap.size = w.heap.size + 2 := by simp
  clear hb0 hg0 hg1
  by_cases h71 : s.size = 71 ∧ s.data.toList.take 7 = V.pre256
  · obtain ⟨h71, hpre⟩ := h71
    have hq1 : ((s.size : Int) == 71) = true := by rw [h71]; rfl
    have hex : s.extract 0 7 = ⟨V.pre256.toArray⟩ := bs_ext (by rw [Lib.extract_data]; simpa using hpre)
    have hex2 : s.extract 7 s.size = ⟨(s.data.toList.drop 7).toArray⟩ := bs_ext (by rw [Lib.extract_data]; simp [List.take_of_length_le, hl])
    have hex3 : s.extract 7 71 = ⟨(s.data.toList.drop 7).toArray⟩ := by rw [← h71]; exact hex2
    have HPD : Hid (V.parD s.data.toList = V.unx (s.data.toList.drop 7)) := Lib.hid (by
      unfold V.parD V.unx
      rw [if_pos ⟨by omega, hpre⟩, if_pos (by rw [List.length_drop]; omega)])
    clear hpre
    go_enter Tryz.func50, Tryz.ntmps50
    go_wp2_with fail
    change Calls _ _ _ ((w.alloc (.cells (cells32 []) 24)).alloc (.cells (cells32 []) 24)) _
    generalize (w.alloc (.cells (cells32 []) 24)).alloc (.cells (cells32 []) 24) = W2 at *
    refine (rUnhex_any ⟨(s.data.toList.drop 7).toArray⟩ W2 (by unfold maxLen; rw [sz_arr, List.length_drop]; omega)).mono ?_
    rintro e w3 ⟨u, rfl, hbuf, hnil, hb3⟩
    rw [bs_arr, ← HPD.out] at hbuf hnil ⊢
    obtain ⟨d, hd⟩ : ∃ d, d = (V.parD s.data.toList).getD [] := ⟨_, rfl⟩
    have hfa : ∃ ua uc, u = .slice ua d.length uc ∧ d.length ≤ 32 ∧ ∀ j (h : j < d.length), ∃ gg, ua = some ⟨gg, 0, none⟩ ∧ W2.heap.size ≤ gg ∧ gg < w3.heap.size ∧ w3.cell? ⟨gg, j, none⟩ = some (.int .u8 (d[j]).toNat) := by
      cases hq : V.parD s.data.toList with
      | none =>
        rw [hq] at hd
        subst hd
        exact ⟨none, 0, hnil hq, Nat.zero_le _, fun j h => by simp at h⟩
      | some d' =>
        rw [hq] at hd
        have hd' : d = d' := hd
        subst hd'
        have hlen := parD_len hq
        obtain ⟨gg, cap, hu, h1, h2, h3⟩ := Buf.at (hbuf d hq) (by omega)
        exact ⟨_, cap, hu, by omega, fun j h => ⟨gg, rfl, h1, h2, h3 j h⟩⟩
    obtain ⟨ua, uc, rfl, hd32, hat⟩ := hfa
    have HAT := Lib.hid hat
    have HDE : Hid (DigPost s.data.toList w = fun e w' => e = .returned (.tuple #[.agg (cells32 d), .bool (V.parD s.data.toList).isSome]) ∧ Below w.heap.size w w') := Lib.hid (by unfold DigPost; rw [hd])
    have HB3 := Lib.hid (HB0.out.trans (hb3.mono (by omega)))
    have HG3 : Hid (w3.heap[w.heap.size]? = some (.cells (cells32 []) 24 (0, 0))) := Lib.hid ((hb3.block w.heap.size (by omega)).trans HG0.out)
    have HD3 : Hid (w3.heap[w.heap.size + 1]? = some (.cells (cells32 (d.take 0)) 24 (0, 0))) := Lib.hid ((hb3.block (w.heap.size + 1) (by omega)).trans HG1.out)
    have HGR : Hid (w3.grownBy w3 (some (w.heap.size + 1))) := Lib.hid (grown_of_below (Below.refl _ w3) _)
    have hz3 : w.heap.size + 2 ≤ w3.heap.size := by have := hb3.size; omega
    generalize (V.parD s.data.toList).isSome = okb at *
    clear hbuf hnil hb3 hat hd HG0 HG1 HB0 hex hex2 hex3
    have hzW : W2.heap.size = w.heap.size + 2 := hz2
    go_wp2
    go_loopw [7] (fun iv wx => ∃ i : Nat, i ≤ d.length ∧ iv = .int .i64 i ∧ wx.heap[w.heap.size + 1]? = some (.cells (cells32 (d.take i)) 24 (0, 0)) ∧ w3.grownBy wx (some (w.heap.size + 1))) (fun iv _ => d.length - (intOf iv).toNat)
    case atStart => exact ⟨0, Nat.zero_le _, rfl, HD3.out, HGR.out⟩
    case round =>
      obtain ⟨i, hi, rfl, hh, hgr⟩ := hrel
      have HH := Lib.hid hh
      have HG := Lib.hid hgr
      clear hh hgr
      by_cases hlt : i < d.length
      · obtain ⟨gg, rfl, hg1, hg2, hgc⟩ := HAT.out i hlt
        have hc := HG.out.cell hgc (fun e => by have := Option.some.inj e; simp at this; omega)
        have hi1 : (0 : Int) ≤ (i : Int) := by omega
        have hi2 : (i : Int) < (d.length : Int) := by omega
        have hi3 : (i : Int) < 32 := by omega
        have htl : (d.take i).length = i := by rw [List.length_take]; omega
        have hset := cells32_set (out := d.take i) (by omega) d[i]
        rw [htl, ← List.take_succ_eq_append_getElem hlt] at hset
        have hil : i < (cells32 (d.take i)).size := by rw [cells32_size (by omega)]; omega
        have HSET := Lib.hid hset
        clear hset hgc
        generalize d[i] = c at *
        go_wp2_with (first | (refine wl_put1 rfl 5 _ _ rfl (w.heap.size + 1) i (cells32 (d.take i)) _ HH.out hil rfl (.int .u8 c.toNat) rfl (by kernel_rfl) rfl ?_; intro W5 hp5) | fail)
        have HP5 := Lib.hid hp5
        clear hp5
        go_wp2
        go_roundw
        case rel => exact ⟨i + 1, by omega, by go_num, by rw [← HSET.out]; exact HP5.out.here, HG.out.trans HP5.out.grown⟩
        case measure => simp [intOf]; omega
      · obtain rfl : i = d.length := by omega
        rw [List.take_length] at HH
        have hsi : Hid ((Tryz.prog.info? 24).map (·.size) = some (cells32 d).size) := Lib.hid (by rw [digInfo, cells32_size hd32])
        have hs32 : (cells32 []).size = (cells32 d).size := by rw [cells32_size hd32]; rfl
        have HG4 : Hid (wr.heap[w.heap.size]? = some (.cells (cells32 []) 24 (0, 0))) := Lib.hid ((HG.out.block w.heap.size (by omega) (fun e => by have := Option.some.inj e; omega)).trans HG3.out)
        have HB4 : Hid (Below w.heap.size w wr) := Lib.hid (HB3.out.trans ⟨HG.out.os, HG.out.tape, HG.out.output, by have := HG.out.size; omega, fun k hk => HG.out.block k (by omega) (fun e => by have := Option.some.inj e; omega)⟩)
        go_wp2_with (first | (refine wpList_load_row rfl 24 _ rfl (w.heap.size + 1) rfl _ (cells32 d) (0, 0) _ HH.out Tryz.underlying24 rfl hsi.out ?_) | (refine wl_putRow rfl 24 _ _ rfl w.heap.size (cells32 []) _ HG4.out rfl (cells32 d) rfl hs32 hsi.out (cells32_one d) ?_; intro W6 hp6) | fail)
        have HP6 := Lib.hid hp6
        clear hp6
        rw [HDE.out]
        refine bodyPost_ret (v := .tuple #[.agg (cells32 d), .bool okb]) ?_ rfl ⟨rfl, HP6.out.below HB4.out (Nat.le_refl _)⟩
        exact results_two Tryz.results50 rfl rfl (loadVar_c32 (cells32_size hd32) HP6.out.here)
  · have HN : Hid (V.parD s.data.toList = none) := Lib.hid (by
      unfold V.parD
      rw [if_neg (fun e => h71 ⟨by omega, e.2⟩)])
    by_cases hq : s.size = 71
    · have hpre : ¬ s.data.toList.take 7 = V.pre256 := fun e => h71 ⟨hq, e⟩
      have hq1 : ((s.size : Int) == 71) = true := by rw [hq]; rfl
      have hex : s.extract 0 7 = ⟨(s.data.toList.take 7).toArray⟩ := bs_ext (by rw [Lib.extract_data]; simp)
      have hne : (s.data.toList.take 7 == [115, 104, 97, 50, 53, 54, 58]) = false := by rw [beq_eq_false_iff_ne]; exact hpre
      clear hpre h71
      go_enter Tryz.func50, Tryz.ntmps50
      go_wp2_with (first | (refine wpList_load_row rfl 24 _ rfl (w.heap.size + 1) rfl _ (cells32 []) (0, 0) _ HG1.out Tryz.underlying24 rfl HZI.out ?_) | (refine wl_putRow rfl 24 _ _ rfl w.heap.size (cells32 []) _ HG0.out rfl (cells32 []) rfl rfl HZI.out (cells32_one _) ?_; intro W6 hp6) | fail)
      have HP6 := Lib.hid hp6
      clear hp6
      refine bodyPost_ret (v := .tuple #[.agg (cells32 []), .bool false]) ?_ rfl ⟨?_, HP6.out.below HB0.out (Nat.le_refl _)⟩
      · exact results_two Tryz.results50 rfl rfl (loadVar_c32 rfl HP6.out.here)
      · rw [HN.out]; rfl
    · have hq1 : ((s.size : Int) == 71) = false := by rw [beq_eq_false_iff_ne]; omega
      clear h71
      go_enter Tryz.func50, Tryz.ntmps50
      go_wp2_with (first | (refine wpList_load_row rfl 24 _ rfl (w.heap.size + 1) rfl _ (cells32 []) (0, 0) _ HG1.out Tryz.underlying24 rfl HZI.out ?_) | (refine wl_putRow rfl 24 _ _ rfl w.heap.size (cells32 []) _ HG0.out rfl (cells32 []) rfl rfl HZI.out (cells32_one _) ?_; intro W6 hp6) | fail)
      have HP6 := Lib.hid hp6
      clear hp6
      refine bodyPost_ret (v := .tuple #[.agg (cells32 []), .bool false]) ?_ rfl ⟨?_, HP6.out.below HB0.out (Nat.le_refl _)⟩
      · exact results_two Tryz.results50 rfl rfl (loadVar_c32 rfl HP6.out.here)
      · rw [HN.out]; rfl
end Go.Proofs.YtnhfaincdabdkaaGreatDoor
namespace Go.Proofs.YtnhfaincdabdkaaGreatDoor
open Go.RowKit

def compNames : List V.Bs := [[122, 108, 105, 98], [115, 115, 108], [108, 105, 98, 115, 47, 112, 110, 103], [97]]
theorem compNames_ok : ∀ x ∈ compNames, V.pathOk x = true := by decide +kernel

/-- a component that was made -/
structure Made (par : Int) (c : V.Comp) : Prop where
  wf : CompWf c
  ok : V.compOk c = true
  par : c.par = par

def CompPost (b k : Nat) (par : Int) (w : World) (e : Ending) (w' : World) : Prop :=
  ∃ c : V.Comp, Made par c ∧ e = .returned (.agg (ccells c)) ∧ Tape w' b (k + 5) ∧ w.grownBy w' (some b)

theorem ccells_set3 (c : V.Comp) (v : V.Bs) : (ccells c).setIfInBounds 3 (.string ⟨v.toArray⟩) = ccells { c with ver := v } := by
  unfold ccells cellsL
  simp

set_option maxRecDepth 100000 in
set_option maxHeartbeats 3200000 in
theorem comp_any (b k : Nat) (par : Int) (w : World) (h : Tape w b k) (hk : k ≤ 100000) (hp : (Lit.int .i64 par).wf = true) :
    Calls Tryz.prog 137 #[.pointer (some ⟨b, 0, none⟩), .int .i64 par] w (CompPost b k par w) := by
  have HT := Lib.hid h
  have HP := Lib.hid hp
  have hbw := h.lt
  clear h hp
  go_enter Tryz.func137, Tryz.ntmps137
  go_wp2_with fail
  rw [zero_cells]
  obtain ⟨W0, hW0⟩ : ∃ W0, W0 = w.alloc (.cells (ccells zeroC) 88) := ⟨_, rfl⟩
  have hg0 : W0.heap[w.heap.size]? = some (.cells (ccells zeroC) 88 (0, 0)) := by rw [hW0]; exact heap_alloc_new w _
  have hz0 : W0.heap.size = w.heap.size + 1 := by rw [hW0]; simp
  have hb0 : Below w.heap.size w W0 := by rw [hW0]; exact (Below.refl _ w).alloc (Nat.le_refl _) _
  rw [← hW0]
  clear hW0
  refine (next_any b k 3 _ (HT.out.below hb0) (by omega) (by omega) (by omega)).mono ?_
  rintro e w1 ⟨r, hr, rfl, ht1, hg1⟩
  have HG1 := Lib.hid (World.grownBy.trans (below_grown hb0 (some b)) hg1)
  have HT1 := Lib.hid ht1
  have hz1 : w.heap.size < w1.heap.size := Nat.lt_of_lt_of_le (by omega) hg1.size
  have HR1 : Hid (w1.heap[w.heap.size]? = some (.cells (ccells zeroC) 88 (0, 0))) := Lib.hid ((hg1.block _ (by omega) (by simp; omega)).trans hg0)
  clear hg0 hz0 hb0 ht1 hg1
  go_wp2_with fail
  refine (pick_any b (k + 1) _ ⟨w1.heap.size, 0, none⟩ 4 compNames (HT1.out.below ((Below.refl _ w1).alloc (Nat.le_refl _) _)) (by omega) (by decide) (by decide) (by simp; omega) rfl (fun j hj => by
      rw [World.cell?_alloc_new, Nat.zero_add]
      have : ∀ j : Fin 4, (#[Value.string ⟨#[122, 108, 105, 98]⟩, Value.string ⟨#[115, 115, 108]⟩, Value.string ⟨#[108, 105, 98, 115, 47, 112, 110, 103]⟩, Value.string ⟨#[97]⟩])[j.val]? = some (Value.string ⟨(compNames.getD j.val []).toArray⟩) := by
        intro j; rcases j with ⟨j, hj⟩
        have h4 : j = 0 ∨ j = 1 ∨ j = 2 ∨ j = 3 := by omega
        rcases h4 with rfl | rfl | rfl | rfl <;> rfl
      exact this ⟨j, hj⟩)).mono ?_
  rintro e w2 ⟨x, hx, rfl, ht2, hg2⟩
  have hb1 : Below w1.heap.size w1 (w1.alloc (.cells #[Value.string ⟨#[122, 108, 105, 98]⟩, Value.string ⟨#[115, 115, 108]⟩, Value.string ⟨#[108, 105, 98, 115, 47, 112, 110, 103]⟩, Value.string ⟨#[97]⟩] 9)) := (Below.refl _ w1).alloc (Nat.le_refl _) _
  have hg12 := World.grownBy.trans (below_grown hb1 (some b)) hg2
  have HG2 := Lib.hid (World.grownBy.trans HG1.out hg12)
  have HT2 := Lib.hid ht2
  have hz2 : w.heap.size < w2.heap.size := Nat.lt_of_lt_of_le hz1 hg12.size
  have HR2 : Hid (w2.heap[w.heap.size]? = some (.cells (ccells zeroC) 88 (0, 0))) := Lib.hid ((hg12.block _ hz1 (by simp; omega)).trans HR1.out)
  have HX := Lib.hid (compNames_ok x hx)
  have hxl : x.length ≤ 200 := by
    have := compNames_ok x hx
    unfold V.pathOk at this
    simp only [Bool.and_eq_true, decide_eq_true_eq] at this
    exact this.1.1.2
  have hr3 : (1 : Int) + (r : Int) = 1 ∨ (1 : Int) + (r : Int) = 2 ∨ (1 : Int) + (r : Int) = 3 := by omega
  obtain ⟨n, hn⟩ : ∃ n, n = (1 : Int) + (r : Int) := ⟨_, rfl⟩
  rw [← hn] at hr3
  have HC1 : Hid (CompWf ⟨par, n, x, [], zero32⟩) := Lib.hid ⟨HP.out, by show (Lit.int .i64 n).wf = true; rcases hr3 with rfl | rfl | rfl <;> decide, by unfold maxLen; show x.length ≤ _; omega, (Nat.zero_le _ : ([] : V.Bs).length ≤ maxLen), (by decide : zero32.length = 32), (by decide : ∀ n ∈ zero32, (Lit.int .u8 n).wf = true)⟩
  have HR3 := Lib.hid hr3
  clear ht2 hg2 hb1 hg12 hx hr3 HR1 HT1 HG1
  have hcc1 : (ccells ⟨par, 1 + (r : Int), x, [], zero32⟩)[1]? = some (.int .i64 (1 + (r : Int))) := rfl
  have HC1' : Hid (CompWf ⟨par, 1 + (r : Int), x, [], zero32⟩) := Lib.hid (by rw [← hn]; exact HC1.out)
  have HSN : Hid (V.scheme n = true) := Lib.hid (by unfold V.scheme; rcases HR3.out with rfl | rfl | rfl <;> rfl)
  go_wp2_with (first | (refine wl_store rfl _ _ rfl _ _ rfl ⟨par, 1 + (r : Int), x, [], zero32⟩ HC1'.out rfl rfl ?_) | fail)
  rw [← hn]
  obtain ⟨W3, hW3⟩ : ∃ W3, W3 = w2.alloc (.cells (ccells ⟨par, n, x, [], zero32⟩) 88) := ⟨_, rfl⟩
  have hb3 : Below w2.heap.size w2 W3 := by rw [hW3]; exact (Below.refl _ w2).alloc (Nat.le_refl _) _
  have hgc3 : W3.heap[w2.heap.size]? = some (.cells (ccells ⟨par, n, x, [], zero32⟩) 88 (0, 0)) := by rw [hW3]; exact heap_alloc_new w2 _
  have hz3 : W3.heap.size = w2.heap.size + 1 := by rw [hW3]; simp
  rw [← hW3]
  clear hW3 hcc1
  refine (version_any b (k + 1 + 1) n W3 (HT2.out.below hb3) (by omega) HSN.out).mono ?_
  rintro e w4 ⟨v, hv, rfl, ht4, hg4⟩
  have hbw2 : b < w2.heap.size := by omega
  obtain ⟨C, hC⟩ : ∃ C, C = w2.heap.size := ⟨_, rfl⟩
  rw [← hC] at hgc3 hz3 hz2 hbw2 ⊢
  have hgc4 := (hg4.block C (by omega) (by simp; omega)).trans hgc3
  have HR4 : Hid (w4.heap[w.heap.size]? = some (.cells (ccells zeroC) 88 (0, 0))) := Lib.hid ((hg4.block _ (by omega) (by simp; omega)).trans ((hb3.block _ (by omega)).trans HR2.out))
  have hwC : w.heap.size ≤ C := by omega
  have hz4 : C < w4.heap.size := Nat.lt_of_lt_of_le (by omega) hg4.size
  have HG4 := Lib.hid (World.grownBy.trans (World.grownBy.trans HG2.out (below_grown hb3 (some b))) hg4)
  have HT4 := Lib.hid ht4
  have HV := Lib.hid hv
  have hc43 : w4.cell? ⟨C, 3, none⟩ = some (.string ⟨#[]⟩) := by rw [cell_of_row w4 C 3 _ _ _ hgc4]; rfl
  have hf43 : w4.frozen? ⟨C, 3, none⟩ = false := frozen_of_row w4 C 3 _ _ hgc4
  have hgc5 := heap_setCell_same w4 C 3 _ _ (.string ⟨v.toArray⟩) hgc4
  rw [ccells_set3] at hgc5
  simp only at hgc5
  have HGC5 := Lib.hid hgc5
  have HR5 : Hid ((w4.setCell ⟨C, 3, none⟩ (.string ⟨v.toArray⟩)).heap[w.heap.size]? = some (.cells (ccells zeroC) 88 (0, 0))) := Lib.hid (by rw [heap_setCell_other w4 _ _ _ (by simp; omega)]; exact HR4.out)
  have HT5 : Hid (Tape (w4.setCell ⟨C, 3, none⟩ (.string ⟨v.toArray⟩)) b (k + 1 + 1 + 1)) := Lib.hid (HT4.out.set (by omega) hc43 (by intro _ _ g; cases g))
  have HG5 : Hid (w.grownBy (w4.setCell ⟨C, 3, none⟩ (.string ⟨v.toArray⟩)) (some b)) := Lib.hid (grown_new HG4.out (set_grown w4 C 3 _) hwC)
  clear hb3 hgc3 hz3 hg4 hgc4 ht4 hv hgc5 HG2 HT2 HR2 hC
  have hz5 : C < (w4.setCell ⟨C, 3, none⟩ (.string ⟨v.toArray⟩)).heap.size := by simpa [World.setCell] using hz4
  go_wp2_with fail
  clear hc43 hf43
  generalize w4.setCell ⟨C, 3, none⟩ (.string ⟨v.toArray⟩) = w5 at *
  have HMD : Hid (∀ d : List Int, d.length = 32 → (∀ n ∈ d, (Lit.int .u8 n).wf = true) → Made par ⟨par, n, x, v, d⟩) := Lib.hid (fun d h1 h2 => ⟨⟨HC1.out.par, HC1.out.sch, HC1.out.name, by have := V.valid_short HV.out; unfold maxLen; show v.length ≤ _; omega, h1, h2⟩, by rw [V.compOk_iff]; exact ⟨HX.out, HV.out⟩, rfl⟩)
  refine (next_any b (k + 1 + 1 + 1) 3 _ HT5.out (by omega) (by omega) (by omega)).mono ?_
  rintro e w6 ⟨r2, hr2, rfl, ht6, hg6⟩
  have HT6 := Lib.hid ht6
  have HG6 := Lib.hid (World.grownBy.trans HG5.out hg6)
  have HGC6 := Lib.hid ((hg6.block C hz5 (by simp; omega)).trans HGC5.out)
  have HR6 := Lib.hid ((hg6.block _ (by omega) (by simp; omega)).trans HR5.out)
  have hz6 : C < w6.heap.size := Nat.lt_of_lt_of_le hz5 hg6.size
  clear ht6 hg6
  by_cases h0 : r2 = 0
  · subst h0
    go_wp2_with fail
    refine (sum_any b (k + 1 + 1 + 1 + 1) w6 HT6.out (by omega)).mono ?_
    rintro e w7 ⟨y, hy1, hy2, rfl, ht7, hg7⟩
    have hdl : (dig1 (y : Int)).length = 32 := rfl
    have hdw : ∀ n ∈ dig1 (y : Int), (Lit.int .u8 n).wf = true := by
      intro m hm
      have hy6 : y = 1 ∨ y = 2 ∨ y = 3 ∨ y = 4 ∨ y = 5 ∨ y = 6 := by omega
      rcases List.mem_cons.1 hm with rfl | hm
      · rcases hy6 with rfl | rfl | rfl | rfl | rfl | rfl <;> decide
      · rw [(List.mem_replicate.1 hm).2]; decide
    have HMM := Lib.hid (HMD.out (dig1 y) hdl hdw)
    have HM0 := Lib.hid (HMD.out zero32 (by decide) (by decide))
    have HGC7 := Lib.hid ((hg7.block C hz6 (by simp; omega)).trans HGC6.out)
    have HR7 := Lib.hid ((hg7.block _ (by omega) (by simp; omega)).trans HR6.out)
    have HT7 := Lib.hid ht7
    have HG7 := Lib.hid (World.grownBy.trans HG6.out hg7)
    have hz7 : C < w7.heap.size := Nat.lt_of_lt_of_le hz6 hg7.size
    have HTH := Lib.hid (there_dig HM0.out.wf HGC7.out)
    obtain ⟨W8, hW8⟩ : ∃ W8, W8 = w7.setCells C 4 (dcells (dig1 (y : Int))).toList := ⟨_, rfl⟩
    have HRD : Hid (W8.rangeAt C 0 (cellsL ⟨par, n, x, v, dig1 y⟩)) := Lib.hid (by rw [hW8]; exact range_dig HM0.out.wf HGC7.out hdl)
    have HR8 : Hid (W8.heap[w.heap.size]? = some (.cells (ccells zeroC) 88 (0, 0))) := Lib.hid (by rw [hW8, World.heap_setCells_other w7 C 4 _ (by omega) (by omega)]; exact HR7.out)
    have hgr8 : w7.grownBy W8 (some C) := by rw [hW8]; exact setCells_grown w7 C 4 _
    have HT8 := Lib.hid (HT7.out.grown hgr8 (by simp; omega) (by intro b' e; cases e; omega))
    have HG8 := Lib.hid (grown_new HG7.out hgr8 hwC)
    have HW8 := Lib.hid hW8
    have HDL := Lib.hid hdl
    clear ht7 hg7 hdl hdw hy1 hy2 hW8 hgr8
    go_wp2_with (first | (refine wl_load rfl _ rfl C 0 rfl ⟨par, n, x, v, dig1 y⟩ HMM.out.wf HRD.out ?_) | (refine wl_store_at rfl _ _ rfl w.heap.size _ _ HR8.out rfl ⟨par, n, x, v, dig1 y⟩ HMM.out.wf rfl zeroC_wf.size ?_) | (refine wl_store_dig rfl _ _ rfl C 4 (dig1 (y : Int)) HDL.out rfl rfl HTH.out W8 HW8.out ?_) | fail)
    refine bodyPost_ret (v := .agg (ccells ⟨par, n, x, v, dig1 y⟩)) ?_ rfl ⟨_, HMM.out, rfl, ?_, ?_⟩
    · exact results_one Tryz.results137 rfl (loadVar_row HMM.out.wf (setRow_heap _ w.heap.size _ _ _ _ HR8.out))
    · exact (HT8.out.grown (setRow_grown _ w.heap.size _) (by simp; omega) (by intro b' e; cases e; omega)).le (by omega)
    · exact grown_new HG8.out (setRow_grown _ _ _) (Nat.le_refl _)
  · have h0' : ((r2 : Int) == 0) = false := by rw [beq_eq_false_iff_ne]; omega
    have HMM := Lib.hid (HMD.out (zero32) (by decide) (by decide))
    go_wp2_with (first | (refine wl_load rfl _ rfl C 0 rfl ⟨par, n, x, v, zero32⟩ HMM.out.wf (range_row HGC6.out) ?_) | (refine wl_store_at rfl _ _ rfl w.heap.size _ _ HR6.out rfl ⟨par, n, x, v, zero32⟩ HMM.out.wf rfl zeroC_wf.size ?_) | fail)
    refine bodyPost_ret (v := .agg (ccells ⟨par, n, x, v, zero32⟩)) ?_ rfl ⟨_, HMM.out, rfl, ?_, ?_⟩
    · exact results_one Tryz.results137 rfl (loadVar_row HMM.out.wf (setRow_heap w6 w.heap.size _ _ _ _ HR6.out))
    · exact (HT6.out.grown (setRow_grown w6 w.heap.size _) (by simp; omega) (by intro b' e; cases e; omega)).le (by omega)
    · exact grown_new HG6.out (setRow_grown _ _ _) (Nat.le_refl _)
end Go.Proofs.YtnhfaincdabdkaaGreatDoor
