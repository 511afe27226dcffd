/-
  Walk: the reference's Valid of an inventory.
  Walks: schemes by name; the reference's package URLs made.
  Plain: merging lists of components.
-/
import Derived.Test.YtnhfaincdabdkaaGreatDoorIJ
import Derived.Test.YtnhfaincdabdkaaGreatDoorJM
import Derived.Test.YtnhfaincdabdkaaGreatDoorR3
import Derived.Test.YtnhfaincdabdkaaGreatDoorJP
namespace Go.Proofs.YtnhfaincdabdkaaGreatDoor
open Go.RowKit

set_option maxRecDepth 100000 in
set_option maxHeartbeats 3200000 in
theorem rvalid19_any (d : List Int) (time : Int) (v : Value) (l : List V.Comp) (w : World) (hm : MaxOk w) (hd : d.length = 32) (hdw : ∀ n ∈ d, (Lit.int .u8 n).wf = true) (hv : Comps w v l) (hl : l.length ≤ maxLen) :
    Calls Tryz.prog 53 #[.agg (icells d time v)] w fun e w' => e = .returned (.bool (V.invOk d time l)) ∧ Below w.heap.size w w' := by
  have HM := Lib.hid hm
  have HL := Lib.hid hv
  have h32 := icells_32 hd time v
  have h33 := icells_33 hd time v
  have HR := Lib.hid (icells_range w 27 time v hd)
  have HI : Hid ((Tryz.prog.info? 24).map (·.size) = some (dcellsL d).length) := Lib.hid (by rw [digInfo]; unfold dcellsL; simp [hd])
  have HQ : Hid (∀ w, (Op.equalIn 10000 24 (.agg (dcells d)) (.agg (dcells zero32))).run Tryz.prog w = .ok (decide (d = zero32)) w) := Lib.hid (fun w => eq_dig hd hdw (by decide) (by decide) w)
  obtain ⟨va, vc, rfl, _⟩ := hv
  unfold maxLen at hl
  clear hm hd hdw
  generalize icells d time (.slice va l.length vc) = ic at *
  have HB0 : Hid (Below w.heap.size w (w.alloc (.cells ic 27))) := Lib.hid ((Below.refl _ w).alloc (Nat.le_refl _) _)
  by_cases c1 : d = zero32
  · have HV := Lib.hid (inv_head (time := time) (l := l) (.inl c1))
    have HD : Hid (decide (d = zero32) = true) := Lib.hid (decide_eq_true c1)
    clear c1
    rw [HD.out] at HQ
    go_enter Tryz.func53, Tryz.ntmps53
    go_wp2_with (first | (refine wpList_load_mid rfl 24 _ rfl w.heap.size 0 rfl (dcellsL d) _ HR.out Tryz.underlying24 rfl HI.out ?_) | (refine wl_eql rfl 24 24 _ _ rfl (dcells d) (dcells zero32) rfl rfl guard_dig true (HQ.out _) ?_) | fail)
    go_ret
    exact ⟨ret_bool HV.out.symm, HB0.out⟩
  · have HD : Hid (decide (d = zero32) = false) := Lib.hid (decide_eq_false c1)
    rw [HD.out] at HQ
    by_cases c2 : 0 ≤ time ∧ time ≤ 1099511627776
    · have HIN : Hid ((decide (0 ≤ time) && decide (time ≤ 1099511627776)) = true) := Lib.hid (by rw [decide_eq_true c2.1, decide_eq_true c2.2]; rfl)
      by_cases c4 : 128 < l.length
      · have HV := Lib.hid (inv_head (d := d) (time := time) (.inr (.inr (.inr c4))))
        clear c1 c2
        go_enter Tryz.func53, Tryz.ntmps53
        go_wp2_with (first | (refine wpList_load_mid rfl 24 _ rfl w.heap.size 0 rfl (dcellsL d) _ HR.out Tryz.underlying24 rfl HI.out ?_) | (refine wl_eql rfl 24 24 _ _ rfl (dcells d) (dcells zero32) rfl rfl guard_dig false (HQ.out _) ?_) | fail)
        refine (rinstant_any time _).mono ?_
        rintro e w1 ⟨rfl, rfl⟩
        rw [HIN.out]
        go_wp2
        go_ret
        exact ⟨ret_bool HV.out.symm, HB0.out⟩
      · have HV := Lib.hid (inv_rest c1 (show ¬ time < 0 by omega) (show ¬ 1099511627776 < time by omega) c4)
        have c4' : l.length ≤ 128 := by omega
        clear c1 c2 hl
        go_enter Tryz.func53, Tryz.ntmps53
        go_wp2_with (first | (refine wpList_load_mid rfl 24 _ rfl w.heap.size 0 rfl (dcellsL d) _ HR.out Tryz.underlying24 rfl HI.out ?_) | (refine wl_eql rfl 24 24 _ _ rfl (dcells d) (dcells zero32) rfl rfl guard_dig false (HQ.out _) ?_) | fail)
        refine (rinstant_any time _).mono ?_
        rintro e w1 ⟨rfl, rfl⟩
        rw [HIN.out]
        have hw33 : (w.alloc (.cells ic 27)).cell? ⟨w.heap.size, 33, none⟩ = some (.slice va l.length vc) := by rw [World.cell?_alloc_new]; exact h33
        have hzz : w.heap.size < (w.alloc (.cells ic 27)).heap.size := by simp
        clear h32 h33 HR HI HQ HD HIN
        generalize w.alloc (.cells ic 27) = W0 at *
        go_wp2
        go_loopw [3] (fun i wr => ∃ k : Nat, k ≤ l.length ∧ i = .int .i64 k ∧ V.compsTo l k = true ∧ Below W0.heap.size W0 wr) (fun i _ => l.length - (intOf i).toNat)
        case atStart => exact ⟨0, Nat.zero_le _, rfl, rfl, Below.refl _ _⟩
        case round =>
          obtain ⟨k, hk, rfl, hto, hbr⟩ := hrel
          have HTO := Lib.hid hto
          have hr33 := (hbr.cell (p := ⟨w.heap.size, 33, none⟩) hzz).trans hw33
          have HBR := Lib.hid hbr
          have hzr : W0.heap.size ≤ wr.heap.size := hbr.size
          clear hto hbr
          by_cases hlt : k < l.length
          · obtain ⟨hxw, b, off, rfl, hblt, hxr⟩ := HL.out.at k hlt
            have HST := Lib.hid (V.compsTo_step hlt)
            have HSTOP := Lib.hid (inv_stop hlt)
            have hca : V.compAt l k l[k] = (V.compOk l[k] && (decide (-1 ≤ l[k].par) && (decide (l[k].par < k) && !decide (l[k] ∈ l.take k)))) := rfl
            have HCA := Lib.hid hca
            have HX := Lib.hid hxw
            have HXR := Lib.hid (rangeAt_below (rangeAt_below hxr HB0.out) HBR.out)
            have hi1 : (0 : Int) ≤ (k : Int) := by omega
            have hi2 : (k : Int) < (l.length : Int) := by omega
            clear hxw hxr hca
            generalize l[k] = x at *
            have hpr := wf_rng HX.out.par
            have h1 := range_new x wr 88
            have hb1 : Below W0.heap.size W0 (wr.alloc (.cells (ccells x) 88)) := HBR.out.alloc HBR.out.size _
            have hz1 : wr.heap.size < (wr.alloc (.cells (ccells x) 88)).heap.size := by simp
            have H1 := Lib.hid h1
            have HB1 := Lib.hid hb1
            clear h1 hb1
            go_wp2_with (first | (refine wl_load rfl _ rfl b (off + k * 36) rfl x HX.out HXR.out ?_) | (refine wl_store rfl _ _ rfl _ _ rfl x HX.out rfl rfl ?_; generalize wr.alloc (.cells (ccells x) 88) = w1 at *; generalize wr.heap.size = X at *) | (refine wl_load rfl _ rfl X 0 rfl x HX.out H1.out ?_) | fail)
            refine (rcomponent_any x _ (HM.out.below (HB0.out.trans (HB1.out.mono (by have := HB0.out.size; omega)))) HX.out).mono ?_
            rintro e w2 ⟨rfl, hb2⟩
            have HB2 := Lib.hid (HB1.out.trans (hb2.mono HB1.out.size))
            have hx2 := rangeAt_below H1.out hb2
            have x0 : w2.cell? ⟨X, 0, none⟩ = some (.int .i64 x.par) := hx2 0 _ rfl
            have HX2 := Lib.hid hx2
            have hz2 : X < w2.heap.size := Nat.lt_of_lt_of_le hz1 hb2.size
            have HBE : Hid (∀ W, Below W0.heap.size W0 W → Below w.heap.size w W) := Lib.hid (fun W h => HB0.out.trans (h.mono HB0.out.size))
            clear hz1 hb2 hx2 hr33
            rcases hok : V.compOk x with _ | _
            · have HF : Hid (V.invOk d time l = false) := Lib.hid (by rw [HV.out]; exact HSTOP.out (by rw [HCA.out, hok]; rfl))
              clear hok
              go_wp2
              go_ret
              exact ⟨ret_bool HF.out.symm, HBE.out _ HB2.out⟩
            · by_cases p1 : x.par < -1
              · have HF : Hid (V.invOk d time l = false) := Lib.hid (by rw [HV.out]; exact HSTOP.out (by rw [HCA.out, decide_eq_false (show ¬ -1 ≤ x.par by omega)]; simp))
                clear hok
                go_wp2
                go_ret
                exact ⟨ret_bool HF.out.symm, HBE.out _ HB2.out⟩
              · by_cases p2 : x.par < (k : Int)
                · have q1 : decide (x.par < -1) = false := decide_eq_false p1
                  have q2 : decide ((k : Int) ≤ x.par) = false := decide_eq_false (by omega)
                  have HCB : Hid (V.compAt l k x = !decide (x ∈ l.take k)) := Lib.hid (by rw [HCA.out, hok, decide_eq_true (show -1 ≤ x.par by omega), decide_eq_true p2]; rfl)
                  clear hok HCA
                  go_wp2
                  clear x0
                  go_loopw [5] (fun jv wx => ∃ j : Nat, j ≤ k ∧ jv = .int .i64 j ∧ x ∉ l.take j ∧ Below w2.heap.size w2 wx) (fun jv _ => k - (intOf jv).toNat)
                  case atStart => exact ⟨0, Nat.zero_le _, rfl, by simp, Below.refl _ _⟩
                  case round =>
                    obtain ⟨j, hj, rfl, hnm, hbx⟩ := hrel
                    have HBX := Lib.hid hbx
                    have HNM := Lib.hid hnm
                    clear hbx hnm
                    by_cases hjk : j < k
                    · obtain ⟨hdw, g2, off2, he2, hgl, hgr⟩ := HL.out.at j (show j < l.length by omega)
                      cases he2
                      have HDW := Lib.hid hdw
                      have HDR := Lib.hid (rangeAt_below (rangeAt_below (rangeAt_below (rangeAt_below hgr HB0.out) HB2.out) HBX.out) (Below.refl _ wr).drew)
                      have HXD := Lib.hid (rangeAt_below (rangeAt_below HX2.out HBX.out) (Below.refl _ wr).drew)
                      have hd33 := (((HB2.out.trans (HBX.out.mono HB2.out.size)).drew).cell (p := ⟨w.heap.size, 33, none⟩) hzz).trans hw33
                      have hjl : j < l.length := by omega
                      have HTS : Hid (x ∉ l.take j → ¬ l[j] = x → x ∉ l.take (j + 1)) := Lib.hid (fun h1 h2 => by
                        rw [List.take_succ_eq_append_getElem hjl, List.mem_append, List.mem_singleton]
                        exact fun h => h.elim h1 (fun e => h2 e.symm))
                      have HIN : Hid (l[j] ∈ l.take k) := Lib.hid (by
                        rw [show l[j] = (l.take k)[j]'(by simp; omega) by rw [List.getElem_take]]
                        exact List.getElem_mem _)
                      have hi3 : (0 : Int) ≤ (j : Int) := by omega
                      have hi4 : (j : Int) < (l.length : Int) := by omega
                      clear hdw hgr
                      generalize l[j] = y at *
                      go_wp2
                      refine wp_region_still_lit (by kernel_rfl) (by kernel_rfl) ?_
                      still_step
                      still_step
                      still_step
                      still_step
                      refine wpStill_step (fun K hK => ?_)
                      refine still_load rfl (.tmp 56) rfl b (off + j * 36) rfl y HDW.out HDR.out (hK _ ?_)
                      clear hK K
                      refine wpStill_step (fun K hK => ?_)
                      refine still_load rfl (.tmp 4) rfl X 0 rfl x HX.out HXD.out (hK _ ?_)
                      clear hK K
                      refine wpStill_step (fun K hK => ?_)
                      refine still_eql rfl (.tmp 57) (.tmp 58) rfl y x HDW.out HX.out rfl rfl (hK _ ?_)
                      clear hK K
                      refine wpStill_nil ?_
                      have HBD := Lib.hid HBX.out.drew
                      change Exit.then _ _ _ _ wr.drew
                      clear hd33
                      rcases hcd : decide (y = x) with _ | _
                      · have HNE : Hid (¬ y = x) := Lib.hid (of_decide_eq_false hcd)
                        clear hcd
                        go_wp2
                        go_roundw
                        case rel => exact ⟨j + 1, by omega, by go_num, HTS.out HNM.out HNE.out, HBD.out⟩
                        case measure => simp [intOf]; omega
                      · have HE := Lib.hid (of_decide_eq_true hcd)
                        have HF : Hid (V.invOk d time l = false) := Lib.hid (by rw [HV.out]; exact HSTOP.out (by rw [HCB.out, decide_eq_true (by rw [← HE.out]; exact HIN.out)]; rfl))
                        clear hcd
                        go_wp2
                        go_ret
                        exact ⟨ret_bool HF.out.symm, HBE.out _ (HB2.out.trans (HBD.out.mono HB2.out.size))⟩
                    · obtain rfl : j = k := by omega
                      have HN : Hid (V.compsTo l (j + 1) = true) := Lib.hid (by rw [HST.out, HTO.out, HCB.out, decide_eq_false HNM.out]; rfl)
                      have HB3 := Lib.hid (HB2.out.trans (HBX.out.mono HB2.out.size))
                      go_wp2
                      go_roundw
                      case rel => exact ⟨j + 1, by omega, by go_num, HN.out, HB3.out⟩
                      case measure => simp [intOf]; omega
                · have HF : Hid (V.invOk d time l = false) := Lib.hid (by rw [HV.out]; exact HSTOP.out (by rw [HCA.out, decide_eq_false p2]; simp))
                  clear hok
                  go_wp2
                  go_ret
                  exact ⟨ret_bool HF.out.symm, HBE.out _ HB2.out⟩
          · obtain rfl : k = l.length := by omega
            have HT : Hid (V.invOk d time l = true) := Lib.hid (by rw [HV.out]; exact HTO.out)
            have HB3 := Lib.hid (HB0.out.trans (HBR.out.mono HB0.out.size))
            go_wp2
            go_ret
            exact ⟨ret_bool HT.out.symm, HB3.out⟩
    · have HIN : Hid ((decide (0 ≤ time) && decide (time ≤ 1099511627776)) = false) := Lib.hid (by
        by_cases p : 0 ≤ time
        · rw [decide_eq_false (show ¬ time ≤ 1099511627776 from fun q => c2 ⟨p, q⟩)]; simp
        · rw [decide_eq_false p]; rfl)
      have HV : Hid (V.invOk d time l = false) := Lib.hid (by
        by_cases p : 0 ≤ time
        · exact inv_head (.inr (.inr (.inl (by have := fun q => c2 ⟨p, q⟩; omega))))
        · exact inv_head (.inr (.inl (by omega))))
      clear c1 c2
      go_enter Tryz.func53, Tryz.ntmps53
      go_wp2_with (first | (refine wpList_load_mid rfl 24 _ rfl w.heap.size 0 rfl (dcellsL d) _ HR.out Tryz.underlying24 rfl HI.out ?_) | (refine wl_eql rfl 24 24 _ _ rfl (dcells d) (dcells zero32) rfl rfl guard_dig false (HQ.out _) ?_) | fail)
      refine (rinstant_any time _).mono ?_
      rintro e w1 ⟨rfl, rfl⟩
      rw [HIN.out]
      go_wp2
      go_ret
      exact ⟨ret_bool HV.out.symm, HB0.out⟩
end Go.Proofs.YtnhfaincdabdkaaGreatDoor
namespace Go.Proofs.YtnhfaincdabdkaaGreatDoor
open Go.RowKit

set_option maxRecDepth 100000 in
set_option maxHeartbeats 400000 in
theorem rschName_any (n : Int) (hn : n = 1 ∨ n = 2 ∨ n = 3) (w : World) :
    Calls Tryz.prog 136 #[.int .i64 n] w fun e w' => e = .returned (.string ⟨(V.schName n).toArray⟩) ∧ w' = w := by
  rcases hn with rfl | rfl | rfl
  all_goals
    go_enter Tryz.func136, Tryz.ntmps136
    go_wp2
    go_ret
    exact ⟨rfl, rfl⟩

set_option maxRecDepth 100000 in
set_option maxHeartbeats 400000 in
theorem schNum_any (s : ByteArray) (w : World) :
    Calls Tryz.prog 95 #[.string s] w fun e w' => e = .returned (.int .i64 (V.schNum s.data.toList)) ∧ w' = w := by
  go_enter Tryz.func95, Tryz.ntmps95
  go_wp2
  go_loop [3] (fun i => ∃ k : Nat, k ≤ 4 ∧ 1 ≤ k ∧ i = .int .i64 k ∧ ∀ j : Nat, 1 ≤ j → j < k → ¬ s.data.toList = V.schName j) (fun i => 4 - (intOf i).toNat)
  case atStart => exact ⟨1, by omega, by omega, rfl, fun j h1 h2 => by omega⟩
  case round =>
    obtain ⟨k, hk, hk1, rfl, hz⟩ := hrel
    have HZ := Lib.hid hz
    clear hz
    by_cases hlt : k ≤ 3
    · go_wp2_with fail
      refine (schName_any _ _).mono ?_
      rintro e w' ⟨rfl, rfl⟩
      by_cases he : s.data.toList = V.schName k
      · have HE := Lib.hid he
        have hs : s = ⟨(V.schName k).toArray⟩ := bs_ext (by rw [bs_mk]; exact he)
        have HR : Hid (V.schNum s.data.toList = k) := Lib.hid (V.schNum_at hk1 hlt he)
        rw [← hs]
        clear he hs
        go_wp2
        go_ret
        exact ⟨ret_int HR.out.symm, rfl⟩
      · have hne : ((⟨(V.schName k).toArray⟩ : ByteArray).toList == s.toList) = false := by
          rw [Lib.toList_data, Lib.toList_data, bs_mk]
          exact beq_eq_false_iff_ne.2 fun e => he e.symm
        have HR : Hid (∀ j : Nat, 1 ≤ j → j < k + 1 → ¬ s.data.toList = V.schName j) := Lib.hid fun j h1 h2 => by
          by_cases e : j = k
          · subst e; exact he
          · exact HZ.out j h1 (by omega)
        generalize (⟨(V.schName k).toArray⟩ : ByteArray) = x at *
        clear he
        go_wp2
        go_round
        case rel => exact ⟨k + 1, by omega, by omega, by go_num, HR.out⟩
        case measure => simp [intOf]; omega
    · have HR : Hid (V.schNum s.data.toList = 0) := Lib.hid (V.schNum_no fun j h1 h2 => HZ.out j h1 (by omega))
      go_wp2
      go_ret
      exact ⟨ret_int HR.out.symm, rfl⟩
set_option maxRecDepth 100000 in
set_option maxHeartbeats 400000 in
theorem rschNum_any (s : ByteArray) (w : World) :
    Calls Tryz.prog 100 #[.string s] w fun e w' => e = .returned (.int .i64 (V.schNum s.data.toList)) ∧ w' = w := by
  go_enter Tryz.func100, Tryz.ntmps100
  go_wp2
  go_loop [3] (fun i => ∃ k : Nat, k ≤ 4 ∧ 1 ≤ k ∧ i = .int .i64 k ∧ ∀ j : Nat, 1 ≤ j → j < k → ¬ s.data.toList = V.schName j) (fun i => 4 - (intOf i).toNat)
  case atStart => exact ⟨1, by omega, by omega, rfl, fun j h1 h2 => by omega⟩
  case round =>
    obtain ⟨k, hk, hk1, rfl, hz⟩ := hrel
    have HZ := Lib.hid hz
    clear hz
    by_cases hlt : k ≤ 3
    · go_wp2_with fail
      refine (rschName_any _ (by omega) _).mono ?_
      rintro e w' ⟨rfl, rfl⟩
      by_cases he : s.data.toList = V.schName k
      · have HE := Lib.hid he
        have hs : s = ⟨(V.schName k).toArray⟩ := bs_ext (by rw [bs_mk]; exact he)
        have HR : Hid (V.schNum s.data.toList = k) := Lib.hid (V.schNum_at hk1 hlt he)
        rw [← hs]
        clear he hs
        go_wp2
        go_ret
        exact ⟨ret_int HR.out.symm, rfl⟩
      · have hne : ((⟨(V.schName k).toArray⟩ : ByteArray).toList == s.toList) = false := by
          rw [Lib.toList_data, Lib.toList_data, bs_mk]
          exact beq_eq_false_iff_ne.2 fun e => he e.symm
        have HR : Hid (∀ j : Nat, 1 ≤ j → j < k + 1 → ¬ s.data.toList = V.schName j) := Lib.hid fun j h1 h2 => by
          by_cases e : j = k
          · subst e; exact he
          · exact HZ.out j h1 (by omega)
        generalize (⟨(V.schName k).toArray⟩ : ByteArray) = x at *
        clear he
        go_wp2
        go_round
        case rel => exact ⟨k + 1, by omega, by omega, by go_num, HR.out⟩
        case measure => simp [intOf]; omega
    · have HR : Hid (V.schNum s.data.toList = 0) := Lib.hid (V.schNum_no fun j h1 h2 => HZ.out j h1 (by omega))
      go_wp2
      go_ret
      exact ⟨ret_int HR.out.symm, rfl⟩

end Go.Proofs.YtnhfaincdabdkaaGreatDoor
namespace Go.Proofs.YtnhfaincdabdkaaGreatDoor
open Go.RowKit

namespace V
/-- a component whose container has moved -/
def moved (st : List Int) (c : Comp) : Comp := if 0 ≤ c.par then { c with par := st.getD c.par.toNat 0 } else c
def mStep (s : List Comp × List Int) (c : Comp) : List Comp × List Int :=
  if moved s.2 c ∈ s.1 then (s.1, s.2 ++ [ixOf s.1 (moved s.2 c)]) else (s.1 ++ [moved s.2 c], s.2 ++ [(s.1.length : Int)])
def mergeTo (a b : List Comp) (k : Nat) : List Comp × List Int := (b.take k).foldl mStep (a, [])
def mergeL (a b : List Comp) : List Comp := (mergeTo a b b.length).1
theorem mergeTo_zero (a b : List Comp) : mergeTo a b 0 = (a, []) := rfl
theorem mergeTo_step {a b : List Comp} {k : Nat} (h : k < b.length) : mergeTo a b (k + 1) = mStep (mergeTo a b k) b[k] := by
  unfold mergeTo
  rw [List.take_succ_eq_append_getElem h, List.foldl_append]
  rfl
theorem mergeTo_len {a b : List Comp} : ∀ k, k ≤ b.length → (mergeTo a b k).2.length = k
  | 0, _ => rfl
  | k + 1, h => by
    rw [mergeTo_step h]
    unfold mStep
    split
    · simp [mergeTo_len (a := a) (b := b) k (by omega)]
    · simp [mergeTo_len (a := a) (b := b) k (by omega)]
theorem mergeTo_out {a b : List Comp} : ∀ k, k ≤ b.length → (mergeTo a b k).1.length ≤ a.length + k
  | 0, _ => by simp [mergeTo_zero]
  | k + 1, h => by
    have := mergeTo_out (a := a) (b := b) k (by omega)
    rw [mergeTo_step h]
    unfold mStep
    split
    · show (mergeTo a b k).1.length ≤ _
      omega
    · show ((mergeTo a b k).1 ++ _).length ≤ _
      simp; omega
theorem ixOf_mem {l : List Comp} {c : Comp} (h : c ∈ l) : ∃ m : Nat, ixOf l c = m ∧ ∃ hm : m < l.length, l[m] = c := by
  have h2 := List.idxOf_lt_length_iff.2 h
  refine ⟨l.idxOf c, by unfold ixOf; rw [if_pos h], h2, ?_⟩
  exact List.getElem_idxOf h2
/-- every place so far is one of the list's -/
theorem mergeTo_st {a b : List Comp} : ∀ k, k ≤ b.length → ∀ x ∈ (mergeTo a b k).2, ∃ m : Nat, x = m ∧ m < (mergeTo a b k).1.length
  | 0, _ => fun x hx => by simp [mergeTo_zero] at hx
  | k + 1, h => by
    have ih := mergeTo_st (a := a) (b := b) k (by omega)
    intro x hx
    rw [mergeTo_step h] at hx ⊢
    unfold mStep at hx ⊢
    split at hx
    · rename_i hm
      rw [if_pos hm]
      rcases List.mem_append.1 hx with hx | hx
      · exact ih x hx
      · obtain ⟨m, h1, h2, _⟩ := ixOf_mem hm
        rw [List.mem_singleton.1 hx]
        exact ⟨m, h1, h2⟩
    · rename_i hm
      rw [if_neg hm]
      rcases List.mem_append.1 hx with hx | hx
      · obtain ⟨m, h1, h2⟩ := ih x hx
        exact ⟨m, h1, by simp; omega⟩
      · rw [List.mem_singleton.1 hx]
        exact ⟨_, rfl, by simp⟩
theorem invOk_parts {d : List Int} {t : Int} {l : List Comp} (h : invOk d t l = true) : compsTo l l.length = true ∧ l.length ≤ 128 ∧ 0 ≤ t ∧ t ≤ 1099511627776 := by
  unfold invOk headOk at h
  simp only [Bool.and_eq_true, decide_eq_true_eq] at h
  obtain ⟨⟨_, h1, h2, h3⟩, h4⟩ := h
  exact ⟨h4, h3, h1, h2⟩
/-- which error merging returns -/
def mergeErr (d : List Int) (t : Int) (l : List Comp) (d' : List Int) (t' : Int) (l' : List Comp) : Int :=
  if invOk d t l = true ∧ invOk d' t' l' = true then (if d = d' then (if 128 < (mergeL l l').length then 3 else 0) else 9) else 1
/-- digest, time and components of what it returns -/
def mergeVal (d : List Int) (t : Int) (l : List Comp) (d' : List Int) (t' : Int) (l' : List Comp) : List Int × Int × List Comp :=
  if mergeErr d t l d' t' l' = 0 then (d, max t t', mergeL l l') else (zero32, 0, [])
end V
theorem moved_wf {st : List Int} {c : V.Comp} (hc : CompWf c) (h : ∀ x ∈ st, (Lit.int .i64 x).wf = true) : CompWf (V.moved st c) := by
  unfold V.moved
  split
  · refine { hc with par := ?_ }
    show (Lit.int .i64 (st.getD _ 0)).wf = true
    rw [List.getD_eq_getElem?_getD]
    cases hq : st[c.par.toNat]? with
    | none => rfl
    | some x => exact h x (List.mem_of_getElem? hq)
  · exact hc
end Go.Proofs.YtnhfaincdabdkaaGreatDoor
