/-
  Walks: slices.Clone and slices.Index of components.
-/
import Derived.Test.YtoiabbhppbghdaaJS
import Derived.BigRegion
namespace Go.Proofs.Ytoiabbhppbghdaa
open Go.RowKit

theorem flat_get {l : List V.Comp} (hw : ∀ c ∈ l, CompWf c) {j : Nat} {u : Value} (h : (l.flatMap cellsL)[j]? = some u) : ∃ q, ∃ hq : q < l.length, ∃ i, i < 36 ∧ j = q * 36 + i ∧ (cellsL l[q])[i]? = some u := by
  have hj := (List.getElem?_eq_some_iff.1 h).1
  rw [flat_len hw] at hj
  have hq : j / 36 < l.length := by omega
  have he : j = j / 36 * 36 + j % 36 := by omega
  refine ⟨j / 36, hq, j % 36, by omega, he, ?_⟩
  rw [← flat_at hw _ hq _ (by omega), ← he]
  exact h
theorem Comps.wf {w : World} {v : Value} {l : List V.Comp} (h : Comps w v l) : ∀ c ∈ l, CompWf c := by
  intro c hc
  obtain ⟨a, cap, rfl, hat⟩ := h
  obtain ⟨j, hj, rfl⟩ := List.mem_iff_getElem.1 hc
  exact (hat j hj).1

set_option maxRecDepth 100000 in
set_option maxHeartbeats 1600000 in
theorem cloneC_any (v : Value) (l : List V.Comp) (w : World) (hv : Comps w v l) (hl : l.length ≤ 100000) :
    Calls Try.prog 35 #[v] w fun e w' => ∃ v', e = .returned v' ∧ CRow w' w.heap.size v' l ∧ Below w.heap.size w w' := by
  have hwf := hv.wf
  have HV := Lib.hid hv
  obtain ⟨a, cap, rfl, hat⟩ := hv
  rcases a with _ | ad
  · have hn : l = [] := by
      cases l with
      | nil => rfl
      | cons c r =>
        obtain ⟨_, b, off, e, _⟩ := hat 0 (by simp)
        cases e
    clear hat hwf
    subst hn
    have q24 : ∀ (w : World) (a : Option Addr) (n c n' c' : Nat), (binOp .eql 39 (.slice a n c) (.slice none n' c')).run Try.prog w = .ok (.bool a.isNone) w := fun w a n c n' c' => Lib.run_eql_slice_nil w _ _ a n c n' c' Try.underlying39
    go_enter Try.func35, Try.ntmps35
    go_wp2
    go_ret
    exact ⟨_, rfl, CRow.nil _ _, Below.refl _ _⟩
  · have HW := Lib.hid hwf
    have HNEWS : Hid (∀ W, Below w.heap.size w W → ∀ j u, (l.flatMap cellsL)[j]? = some u → W.cell? (ad.add j) = some u) := Lib.hid (by
      intro W hB j u hju
      obtain ⟨q, hq, i, hi, rfl, hu⟩ := flat_get hwf hju
      obtain ⟨_, b, off, e, hlt, hr⟩ := hat q hq
      cases e
      rw [Addr.add_mid]
      have := hr i u hu
      rw [show off + q * 36 + i = off + (q * 36 + i) by omega] at this
      rw [← this]
      exact hB.cell (p := ⟨b, _, none⟩) hlt)
    have HONE : Hid (∀ u ∈ l.flatMap cellsL, u.oneCell' = true) := Lib.hid (by
      intro u hu
      obtain ⟨c, hc, huc⟩ := List.mem_flatMap.1 hu
      exact Array.all_eq_true_iff_forall_mem.1 (comp_one (c := c)) u (by unfold ccells; simpa using huc))
    have HLEN := Lib.hid (flat_len hwf)
    clear hat hwf
    obtain ⟨ie, z, hi, hz, h1, h2, h3⟩ := compIE3
    have q24 : ∀ (w : World) (a : Option Addr) (n c n' c' : Nat), (binOp .eql 39 (.slice a n c) (.slice none n' c')).run Try.prog w = .ok (.bool a.isNone) w := fun w a n c n' c' => Lib.run_eql_slice_nil w _ _ a n c n' c' Try.underlying39
    go_enter Try.func35, Try.ntmps35
    go_wp2_with (at_builtin; refine wpList_append_own _ rfl _ _ 39 rfl w.heap.size 47 ie z 36 80 Try.underlying39 hi hz h1 h2 h3 (by decide) _ 0 [] rfl (World.ownsRow_made w #[] 0 (Nat.le_refl _) (Nat.zero_le _) rfl) ad l.length cap (l.flatMap cellsL) rfl HLEN.out (HNEWS.out _ ((Below.refl _ w).alloc (Nat.le_refl _) _)) HONE.out (by unfold maxLen; omega) (by omega) (by simp) ?_)
    intro v' w1 hown hgrow _
    go_wp2
    go_ret
    refine ⟨v', rfl, ⟨by simpa using hown, HW.out⟩, ?_⟩
    exact ((Below.refl _ w).alloc (Nat.le_refl _) _).grown hgrow (by simp) (by intro k hk; simp [Value.ownBlock] at hk; omega)

/-- the place of a component, -1 if there is none -/
def ixOf (l : List V.Comp) (c : V.Comp) : Int := if c ∈ l then (l.idxOf c : Nat) else -1
theorem ixOf_none {l : List V.Comp} {c : V.Comp} (h : c ∉ l) : ixOf l c = -1 := by unfold ixOf; rw [if_neg h]
theorem ixOf_at {l : List V.Comp} {k : Nat} (hk : k < l.length) (h : l[k] ∉ l.take k) : ixOf l l[k] = k := by
  unfold ixOf
  rw [if_pos (List.getElem_mem hk)]
  congr 1
  have e : l = l.take k ++ l.drop k := (List.take_append_drop k l).symm
  have h1 : l.idxOf l[k] = (l.take k ++ l.drop k).idxOf l[k] := by rw [← e]
  rw [h1, List.idxOf_append, if_neg h, List.drop_eq_getElem_cons hk, List.idxOf_cons_self]
  simp; omega

set_option maxRecDepth 100000 in
set_option maxHeartbeats 1600000 in
theorem indexC_any (v : Value) (l : List V.Comp) (c : V.Comp) (w : World) (hv : Comps w v l) (hc : CompWf c) (hl : l.length ≤ 100000) :
    Calls Try.prog 36 #[v, .agg (ccells c)] w fun e w' => e = .returned (.int .i64 (ixOf l c)) ∧ Below w.heap.size w w' := by
  have HV := Lib.hid hv
  have HC := Lib.hid hc
  obtain ⟨va, vc, rfl, hjunk⟩ := hv
  clear hjunk hc
  have hx4 := range_new c w 47
  have hb4 : Below w.heap.size w (w.alloc (.cells (ccells c) 47)) := (Below.refl _ w).alloc (Nat.le_refl _) _
  have hz4 : w.heap.size < (w.alloc (.cells (ccells c) 47)).heap.size := by simp
  have HB4 := Lib.hid hb4
  have HX4 := Lib.hid hx4
  clear hx4 hb4
  go_enter Try.func36, Try.ntmps36
  go_wp2
  generalize w.alloc (.cells (ccells c) 47) = w4 at *
  go_loopw [8] (fun jv wx => ∃ j : Nat, j ≤ l.length ∧ jv = .int .i64 j ∧ c ∉ l.take j ∧ Below w4.heap.size w4 wx) (fun jv _ => l.length - (intOf jv).toNat)
  case atStart => exact ⟨0, Nat.zero_le _, rfl, by simp, Below.refl _ _⟩
  case round =>
    obtain ⟨j, hj, rfl, hnm, hbx⟩ := hrel
    have HBX := Lib.hid hbx
    have HNM := Lib.hid hnm
    clear hbx hnm
    by_cases hlt : j < l.length
    · obtain ⟨hdw, g, off, rfl, hgl, hgr⟩ := HV.out.at j hlt
      have HDW := Lib.hid hdw
      have HDR := Lib.hid (rangeAt_below (rangeAt_below (rangeAt_below hgr HB4.out) (HBX.out)) (Below.refl _ wr).drew)
      have HXR : Hid (wr.drew.rangeAt w.heap.size 0 (cellsL c)) := Lib.hid (rangeAt_below (rangeAt_below HX4.out HBX.out) (Below.refl _ wr).drew)
      have HAT := Lib.hid (ixOf_at (l := l) hlt)
      have HTS : Hid (c ∉ l.take j → ¬ c = l[j] → c ∉ l.take (j + 1)) := Lib.hid (fun h1 h2 => by
        rw [List.take_succ_eq_append_getElem hlt, List.mem_append, List.mem_singleton]
        exact fun h => h.elim h1 h2)
      clear hdw hgr
      generalize l[j] = d at *
      go_wp2
      refine wp_region_still_lit (by kernel_rfl) (by kernel_rfl) ?_
      refine wpStill_step (fun K hK => ?_)
      refine still_load rfl (.tmp 3) rfl w.heap.size 0 rfl c HC.out HXR.out (hK _ ?_)
      clear hK K
      still_step
      still_step
      still_step
      refine wpStill_step (fun K hK => ?_)
      refine still_load rfl (.tmp 14) rfl g (off + j * 36) rfl d HDW.out HDR.out (hK _ ?_)
      clear hK K
      refine wpStill_step (fun K hK => ?_)
      refine still_eql rfl (.tmp 11) (.tmp 15) rfl c d HC.out HDW.out rfl rfl (hK _ ?_)
      clear hK K
      refine wpStill_nil ?_
      have HBD := Lib.hid HBX.out.drew
      change Exit.then _ _ _ _ wr.drew
      rcases hcd : decide (c = d) with _ | _
      · have HNE : Hid (¬ c = d) := Lib.hid (of_decide_eq_false hcd)
        clear hcd
        go_wp2
        go_roundw
        case rel => exact ⟨j + 1, by omega, by go_num, HTS.out HNM.out HNE.out, HBD.out⟩
        case measure => simp [intOf]; omega
      · have HE := Lib.hid (of_decide_eq_true hcd)
        clear hcd
        go_wp2
        go_ret
        refine ⟨?_, HB4.out.trans (HBD.out.mono HB4.out.size)⟩
        have := HAT.out (by rw [← HE.out]; exact HNM.out)
        rw [HE.out, this]
        rfl
    · obtain rfl : j = l.length := by omega
      have HIX : Hid (ixOf l c = -1) := Lib.hid (ixOf_none (by have := HNM.out; rwa [List.take_length] at this))
      go_wp2
      go_ret
      exact ⟨by rw [HIX.out]; rfl, HB4.out.trans (HBX.out.mono HB4.out.size)⟩
end Go.Proofs.Ytoiabbhppbghdaa
