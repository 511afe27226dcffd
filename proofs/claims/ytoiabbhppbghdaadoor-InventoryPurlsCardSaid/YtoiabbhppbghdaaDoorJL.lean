/-
  Walk: the law InventoryPurls.
-/
import Derived.Test.YtoiabbhppbghdaaDoorJI
import Derived.Test.YtoiabbhppbghdaaDoorJF
import Derived.Test.YtoiabbhppbghdaaDoorJH
import Derived.Test.YtoiabbhppbghdaaDoorTN
import Derived.Deep.DeepCutAuto
namespace Go.Proofs.YtoiabbhppbghdaaDoor
open Go.RowKit

theorem parseVal_wf (s : ByteArray) (hs : s.size ≤ maxLen) : CompWf (parseVal s.data.toList).1 := by
  unfold parseVal
  cases hq : V.parseP s.data.toList with
  | none => exact zeroC_wf
  | some y =>
    obtain ⟨h1, _, h3, h4⟩ := V.purl_parse hq
    obtain ⟨ln, lv⟩ := V.compOk_len h1
    have hsc := V.valid_scheme (V.compOk_iff.1 h1).2
    refine ⟨by rw [h3]; decide, by rcases hsc with h | h | h <;> rw [h] <;> decide, by show y.name.length ≤ _; unfold maxLen; omega, by show y.ver.length ≤ _; unfold maxLen; omega, by rw [h4]; decide, by rw [h4]; decide⟩
theorem range_grown {w w' : World} {b o g : Nat} {l : List Value} (h : w.rangeAt b o l) (hg : w.grownBy w' (some g)) (hne : b ≠ g) : w'.rangeAt b o l := fun j v hv => by
  exact hg.cell (h j v hv) (by simpa using hne)
theorem range_pair (c c2 : V.Comp) (w : World) (t : TypeId) : (w.alloc (.cells (cellsL c ++ cellsL c2).toArray t)).rangeAt w.heap.size 0 (cellsL c ++ cellsL c2) := fun j v hv => by
  rw [Nat.zero_add, World.cell?_alloc_new]
  simpa using hv

set_option maxRecDepth 100000 in
set_option maxHeartbeats 3200000 in
theorem inventoryPurls_any (c : V.Comp) (s : ByteArray) (a : Option Addr) (m cap : Nat) (w : World) (hmx : MaxOk w) (hc : CompWf c) (hs : s.size ≤ maxLen) (ht : Nums w a m) :
    Calls Tryd.prog 4 #[cval c, .string s, .slice a m cap] w fun e w' => e = .returned (.bool true) ∧ Below w.heap.size w w' := by
  have HM := Lib.hid hmx
  have HC := Lib.hid hc
  have HT := Lib.hid ht
  have h1 := ccells_1 c
  have h2 := ccells_2 c
  have h3 := ccells_3 c
  have HNM := Lib.hid hc.name
  have HVR := Lib.hid hc.ver
  clear hmx hc ht
  unfold cval
  obtain ⟨nm, hnm⟩ : ∃ nm, nm = c.name := ⟨_, rfl⟩
  obtain ⟨vr, hvr⟩ : ∃ vr, vr = c.ver := ⟨_, rfl⟩
  rw [← hnm] at h2 HNM
  rw [← hvr] at h3 HVR
  clear hnm hvr
  by_cases b1 : 400 < nm.length
  · go_enter Tryd.func4, Tryd.ntmps4
    go_wp2
    go_ret
    exact ⟨ret_bool rfl, (Below.refl _ w).alloc (Nat.le_refl _) _⟩
  · by_cases b2 : 200 < vr.length
    · go_enter Tryd.func4, Tryd.ntmps4
      go_wp2
      go_ret
      exact ⟨ret_bool rfl, (Below.refl _ w).alloc (Nat.le_refl _) _⟩
    · by_cases b3 : 800 < s.size
      · go_enter Tryd.func4, Tryd.ntmps4
        go_wp2
        go_ret
        exact ⟨ret_bool rfl, (Below.refl _ w).alloc (Nat.le_refl _) _⟩
      · have b3' : s.size ≤ 800 := by omega
        go_enter Tryd.func4, Tryd.ntmps4
        go_upto_region 3 with fail
        go_cut [41, 42, 43] (fun sv nv iv wx => ∃ (B : Nat) (c2 : V.Comp), sv = .slice (some ⟨B, 0, none⟩) 2 2 ∧ nv = .int .i64 2 ∧ iv = .int .i64 0 ∧ Made (-1) c2 ∧ wx.rangeAt B 0 (cellsL c ++ cellsL c2) ∧ w.heap.size ≤ B ∧ Below w.heap.size w wx)
        case first =>
          refine wp_region_any (by kernel_rfl) ?_
          change wpAny _ _ _ _ _ _ _ (World.drew _)
          have hrc0 : (w.alloc (.cells (ccells c) 35)).drew.rangeAt w.heap.size 0 (cellsL c) := range_new c w _
          have hbd : Below w.heap.size w (w.alloc (.cells (ccells c) 35)).drew := ((Below.refl _ w).alloc (Nat.le_refl _) _).drew
          have hzd : w.heap.size < (w.alloc (.cells (ccells c) 35)).drew.heap.size := by show _ < (w.alloc _).heap.size; simp
          generalize (w.alloc (.cells (ccells c) 35)).drew = wd at *
          have HRC0 := Lib.hid hrc0
          have HB1 : Hid (Below w.heap.size w (wd.alloc (.cells #[.slice a m cap, .int .i64 0] 38))) := Lib.hid (hbd.alloc (by omega) _)
          have HRC1 : Hid ((wd.alloc (.cells #[.slice a m cap, .int .i64 0] 38)).rangeAt w.heap.size 0 (cellsL c)) := Lib.hid (World.rangeAt_alloc hrc0 _)
          have HTP : Hid (Tape (wd.alloc (.cells #[.slice a m cap, .int .i64 0] 38)) wd.heap.size 0) := Lib.hid (Tape.made HT.out HB1.out (by omega) (by rw [cell_alloc, if_pos rfl]; rfl) (by rw [cell_alloc, if_pos rfl]; rfl) (by rw [frozen_alloc, if_pos rfl]))
          have hltB : w.heap.size ≠ wd.heap.size := by omega
          have hleB : w.heap.size ≤ wd.heap.size := by omega
          clear hrc0 hbd
          refine wpAny_take (i := 1) (v := .slice a m cap) rfl (by kernel_rfl) (by kernel_rfl) (by kernel_rfl) (fun _ _ _ h => h) (Or.inl ⟨by rfl, fun w => by go_simp⟩) ?_
          refine wpAny_take (i := 7) (v := .int .i64 0) rfl (by kernel_rfl) (by kernel_rfl) (by kernel_rfl) (fun _ _ _ h => h) (Or.inl ⟨by rfl, fun w => by go_simp⟩) ?_
          refine wpAny_take (i := 2) (v := .agg #[.slice a m cap, .int .i64 0]) rfl (by kernel_rfl) (by kernel_rfl) (by kernel_rfl) (fun _ _ _ h => h) (Or.inl ⟨by rfl, fun w => by go_simp⟩) ?_
          try simp only [List.getElem_toArray, List.getElem_cons_succ, List.getElem_cons_zero, Act.put, List.setIfInBounds_toArray, List.set_cons_succ, List.set_cons_zero]
          refine wpAny_ready (rs := [0, 3]) (by kernel_rfl) (by simp) ?_
          refine AllReady.cons (o := { dst := some 36, op := Op.load 35 (Operand.tmp 3), type := 35, pos := "law.go:176", after := #[], guard := none }) (by kernel_rfl) (fun K hK => ?ga) (AllReady.cons (o := { dst := some 39, op := Op.box 38 (Operand.tmp 38), type := 36, pos := "law.go:176", after := #[{ on := 2, ground := Ground.data }], guard := none }) (by kernel_rfl) (fun K hK => ?gb) AllReady.nil)
          case' ga =>
            refine step_load rfl (.tmp 3) rfl w.heap.size 0 rfl c HC.out HRC0.out (hK _ _ ?_)
            clear hK K
            try simp only [List.getElem_toArray, List.getElem_cons_succ, List.getElem_cons_zero, Act.put, List.setIfInBounds_toArray, List.set_cons_succ, List.set_cons_zero]
            refine wpAny_ready (rs := [3]) (by kernel_rfl) (by simp) ?_
            refine AllReady.cons (o := { dst := some 39, op := Op.box 38 (Operand.tmp 38), type := 36, pos := "law.go:176", after := #[{ on := 2, ground := Ground.data }], guard := none }) (by kernel_rfl) (fun K hK => ?_) AllReady.nil
            go_simp
            refine hK _ _ ?_
            clear hK K
            try simp only [List.getElem_toArray, List.getElem_cons_succ, List.getElem_cons_zero, Act.put, List.setIfInBounds_toArray, List.set_cons_succ, List.set_cons_zero]
            refine wpAny_ready (rs := [4]) (by kernel_rfl) (by simp) ?_
            refine AllReady.cons (o := { dst := some 40, op := Op.call { callee := Callee.value (Operand.func 13), args := #[Operand.tmp 39, Operand.const (Value.int IntKind.i64 (-1))], argTypes := #[36, 3] }, type := 35, pos := "law.go:176", after := #[{ on := 3, ground := Ground.data }], guard := none }) (by kernel_rfl) (fun K hK => ?_) AllReady.nil
            refine step_call rfl 13 #[.pointer (some ⟨wd.heap.size, 0, none⟩), .int .i64 (-1)] (by go_simp) (comp_any wd.heap.size 0 (-1) _ HTP.out (by omega) (by decide)) ?_
            rintro e w2 ⟨c2, hmd, rfl, htp, hgr⟩
            refine ⟨_, rfl, hK _ _ ?_⟩
            have HMD := Lib.hid hmd
            have HRC2 : Hid (w2.rangeAt w.heap.size 0 (cellsL c)) := Lib.hid (range_grown HRC1.out hgr hltB)
            have HBW : Hid (Below w.heap.size w w2) := Lib.hid (HB1.out.trans (grown_below hgr hleB (by have := HB1.out.size; omega)))
            clear hK K htp hgr hmd
            try simp only [List.getElem_toArray, List.getElem_cons_succ, List.getElem_cons_zero, Act.put, List.setIfInBounds_toArray, List.set_cons_succ, List.set_cons_zero]
            refine wpAny_ready (rs := [5]) (by kernel_rfl) (by simp) ?_
            refine AllReady.cons (o := { dst := some 41, op := Op.buildSlice 24 2 #[(0, Operand.tmp 36), (1, Operand.tmp 40)], type := 24, pos := "law.go:176", after := #[{ on := 0, ground := Ground.data }, { on := 4, ground := Ground.data }], guard := none }) (by kernel_rfl) (fun K hK => ?_) AllReady.nil
            refine step_build2 rfl (.tmp 36) (.tmp 40) rfl c c2 HC.out HMD.out.wf rfl rfl (hK _ _ ?_)
            clear hK K
            try simp only [List.getElem_toArray, List.getElem_cons_succ, List.getElem_cons_zero, Act.put, List.setIfInBounds_toArray, List.set_cons_succ, List.set_cons_zero]
            refine wpAny_take (i := 6) (v := .int .i64 2) rfl (by kernel_rfl) (by kernel_rfl) (by kernel_rfl) (fun _ _ _ h => h) (Or.inl ⟨by rfl, fun w => by go_simp⟩) ?_
            try simp only [List.getElem_toArray, List.getElem_cons_succ, List.getElem_cons_zero, Act.put, List.setIfInBounds_toArray, List.set_cons_succ, List.set_cons_zero]
            refine wpAny_done (by kernel_rfl) ?_ _
          case' gb =>
            go_simp
            refine hK _ _ ?_
            clear hK K
            try simp only [List.getElem_toArray, List.getElem_cons_succ, List.getElem_cons_zero, Act.put, List.setIfInBounds_toArray, List.set_cons_succ, List.set_cons_zero]
            refine wpAny_ready (rs := [0, 4]) (by kernel_rfl) (by simp) ?_
            refine AllReady.cons (o := { dst := some 36, op := Op.load 35 (Operand.tmp 3), type := 35, pos := "law.go:176", after := #[], guard := none }) (by kernel_rfl) (fun K hK => ?gc) (AllReady.cons (o := { dst := some 40, op := Op.call { callee := Callee.value (Operand.func 13), args := #[Operand.tmp 39, Operand.const (Value.int IntKind.i64 (-1))], argTypes := #[36, 3] }, type := 35, pos := "law.go:176", after := #[{ on := 3, ground := Ground.data }], guard := none }) (by kernel_rfl) (fun K hK => ?gd) AllReady.nil)
          case' gc =>
            refine step_load rfl (.tmp 3) rfl w.heap.size 0 rfl c HC.out HRC1.out (hK _ _ ?_)
            clear hK K
            try simp only [List.getElem_toArray, List.getElem_cons_succ, List.getElem_cons_zero, Act.put, List.setIfInBounds_toArray, List.set_cons_succ, List.set_cons_zero]
            refine wpAny_ready (rs := [4]) (by kernel_rfl) (by simp) ?_
            refine AllReady.cons (o := { dst := some 40, op := Op.call { callee := Callee.value (Operand.func 13), args := #[Operand.tmp 39, Operand.const (Value.int IntKind.i64 (-1))], argTypes := #[36, 3] }, type := 35, pos := "law.go:176", after := #[{ on := 3, ground := Ground.data }], guard := none }) (by kernel_rfl) (fun K hK => ?_) AllReady.nil
            refine step_call rfl 13 #[.pointer (some ⟨wd.heap.size, 0, none⟩), .int .i64 (-1)] (by go_simp) (comp_any wd.heap.size 0 (-1) _ HTP.out (by omega) (by decide)) ?_
            rintro e w2 ⟨c2, hmd, rfl, htp, hgr⟩
            refine ⟨_, rfl, hK _ _ ?_⟩
            have HMD := Lib.hid hmd
            have HRC2 : Hid (w2.rangeAt w.heap.size 0 (cellsL c)) := Lib.hid (range_grown HRC1.out hgr hltB)
            have HBW : Hid (Below w.heap.size w w2) := Lib.hid (HB1.out.trans (grown_below hgr hleB (by have := HB1.out.size; omega)))
            clear hK K htp hgr hmd
            try simp only [List.getElem_toArray, List.getElem_cons_succ, List.getElem_cons_zero, Act.put, List.setIfInBounds_toArray, List.set_cons_succ, List.set_cons_zero]
            refine wpAny_ready (rs := [5]) (by kernel_rfl) (by simp) ?_
            refine AllReady.cons (o := { dst := some 41, op := Op.buildSlice 24 2 #[(0, Operand.tmp 36), (1, Operand.tmp 40)], type := 24, pos := "law.go:176", after := #[{ on := 0, ground := Ground.data }, { on := 4, ground := Ground.data }], guard := none }) (by kernel_rfl) (fun K hK => ?_) AllReady.nil
            refine step_build2 rfl (.tmp 36) (.tmp 40) rfl c c2 HC.out HMD.out.wf rfl rfl (hK _ _ ?_)
            clear hK K
            try simp only [List.getElem_toArray, List.getElem_cons_succ, List.getElem_cons_zero, Act.put, List.setIfInBounds_toArray, List.set_cons_succ, List.set_cons_zero]
            refine wpAny_take (i := 6) (v := .int .i64 2) rfl (by kernel_rfl) (by kernel_rfl) (by kernel_rfl) (fun _ _ _ h => h) (Or.inl ⟨by rfl, fun w => by go_simp⟩) ?_
            try simp only [List.getElem_toArray, List.getElem_cons_succ, List.getElem_cons_zero, Act.put, List.setIfInBounds_toArray, List.set_cons_succ, List.set_cons_zero]
            refine wpAny_done (by kernel_rfl) ?_ _
          case' gd =>
            refine step_call rfl 13 #[.pointer (some ⟨wd.heap.size, 0, none⟩), .int .i64 (-1)] (by go_simp) (comp_any wd.heap.size 0 (-1) _ HTP.out (by omega) (by decide)) ?_
            rintro e w2 ⟨c2, hmd, rfl, htp, hgr⟩
            refine ⟨_, rfl, hK _ _ ?_⟩
            have HMD := Lib.hid hmd
            have HRC2 : Hid (w2.rangeAt w.heap.size 0 (cellsL c)) := Lib.hid (range_grown HRC1.out hgr hltB)
            have HBW : Hid (Below w.heap.size w w2) := Lib.hid (HB1.out.trans (grown_below hgr hleB (by have := HB1.out.size; omega)))
            clear hK K htp hgr hmd
            try simp only [List.getElem_toArray, List.getElem_cons_succ, List.getElem_cons_zero, Act.put, List.setIfInBounds_toArray, List.set_cons_succ, List.set_cons_zero]
            refine wpAny_ready (rs := [0]) (by kernel_rfl) (by simp) ?_
            refine AllReady.cons (o := { dst := some 36, op := Op.load 35 (Operand.tmp 3), type := 35, pos := "law.go:176", after := #[], guard := none }) (by kernel_rfl) (fun K hK => ?_) AllReady.nil
            refine step_load rfl (.tmp 3) rfl w.heap.size 0 rfl c HC.out HRC2.out (hK _ _ ?_)
            clear hK K
            try simp only [List.getElem_toArray, List.getElem_cons_succ, List.getElem_cons_zero, Act.put, List.setIfInBounds_toArray, List.set_cons_succ, List.set_cons_zero]
            refine wpAny_ready (rs := [5]) (by kernel_rfl) (by simp) ?_
            refine AllReady.cons (o := { dst := some 41, op := Op.buildSlice 24 2 #[(0, Operand.tmp 36), (1, Operand.tmp 40)], type := 24, pos := "law.go:176", after := #[{ on := 0, ground := Ground.data }, { on := 4, ground := Ground.data }], guard := none }) (by kernel_rfl) (fun K hK => ?_) AllReady.nil
            refine step_build2 rfl (.tmp 36) (.tmp 40) rfl c c2 HC.out HMD.out.wf rfl rfl (hK _ _ ?_)
            clear hK K
            try simp only [List.getElem_toArray, List.getElem_cons_succ, List.getElem_cons_zero, Act.put, List.setIfInBounds_toArray, List.set_cons_succ, List.set_cons_zero]
            refine wpAny_take (i := 6) (v := .int .i64 2) rfl (by kernel_rfl) (by kernel_rfl) (by kernel_rfl) (fun _ _ _ h => h) (Or.inl ⟨by rfl, fun w => by go_simp⟩) ?_
            try simp only [List.getElem_toArray, List.getElem_cons_succ, List.getElem_cons_zero, Act.put, List.setIfInBounds_toArray, List.set_cons_succ, List.set_cons_zero]
            refine wpAny_done (by kernel_rfl) ?_ _

          all_goals
            have hr2 := range_pair c c2 w2 35
            have hb2 : Below w.heap.size w (w2.alloc (.cells (cellsL c ++ cellsL c2).toArray 35)) := HBW.out.alloc HBW.out.size _
            have HR2 := Lib.hid hr2
            have HB2 := Lib.hid hb2
            clear hr2 hb2
            go_wp2_with fail
            go_meet
            exact ⟨_, c2, rfl, rfl, rfl, HMD.out, HR2.out, HBW.out.size, HB2.out⟩
        case rest =>
          obtain ⟨B, c2, rfl, rfl, rfl, hmd, hr, hB, hb⟩ := hcut
          have HMD := Lib.hid hmd
          have HR := Lib.hid hr
          have HB := Lib.hid hb
          have hBlt : B < wc.heap.size := World.block_lt_of_cell? _ _ (hr 0 _ rfl)
          have HAT : Hid (∀ k, k < 2 → ∃ x : V.Comp, CompWf x ∧ wc.rangeAt B (k * 36) (cellsL x)) := Lib.hid (fun k hk => by
            have hl : (cellsL c).length = 36 := by have := HC.out.size; unfold ccells at this; simpa using this
            have h2 : k = 0 ∨ k = 1 := by omega
            rcases h2 with rfl | rfl
            · refine ⟨c, HC.out, fun j v hv => ?_⟩
              have hj := (List.getElem?_eq_some_iff.1 hv).1
              exact hr j v (by rw [List.getElem?_append_left hj]; exact hv)
            · refine ⟨c2, hmd.wf, fun j v hv => ?_⟩
              have := hr (36 + j) v (by rw [List.getElem?_append_right (by omega), hl]; simpa using hv)
              rw [show 0 + (36 + j) = 1 * 36 + j by omega] at this
              exact this)
          clear hmd hr hb h1 h2 h3
          go_wp2
          go_loopw [43] (fun i wr => ∃ k : Nat, k ≤ 2 ∧ i = .int .i64 k ∧ Below wc.heap.size wc wr) (fun i _ => 2 - (intOf i).toNat)
          case atStart => exact ⟨0, Nat.zero_le _, rfl, Below.refl _ _⟩
          case round =>
            obtain ⟨k, hk, rfl, hbr⟩ := hrel
            have HBR := Lib.hid hbr
            have HBW := Lib.hid (HB.out.trans (hbr.mono HB.out.size))
            clear hbr
            by_cases hlt : k < 2
            · obtain ⟨x, hxw, hxr⟩ := HAT.out k hlt
              have HX := Lib.hid hxw
              have HXR := Lib.hid (rangeAt_below hxr HBR.out)
              clear hxw hxr
              go_wp2_with (first | (refine wl_load rfl _ rfl B (k * 36) rfl x HX.out HXR.out ?_) | (refine wl_store rfl _ _ rfl _ _ rfl x HX.out rfl rfl ?_) | (refine wl_load rfl _ rfl wr.heap.size 0 rfl x HX.out (range_new x wr _) ?_) | fail)
              have hb1 : Below w.heap.size w (wr.alloc (.cells (ccells x) 35)) := HBW.out.alloc HBW.out.size _
              have hc1 : Below wc.heap.size wc (wr.alloc (.cells (ccells x) 35)) := HBR.out.alloc HBR.out.size _
              have hx1 := range_new x wr 35
              have hz1 : wr.heap.size < (wr.alloc (.cells (ccells x) 35)).heap.size := by simp
              generalize wr.alloc (.cells (ccells x) 35) = w1 at *
              obtain ⟨X, hXe⟩ : ∃ X, X = wr.heap.size := ⟨_, rfl⟩
              rw [← hXe] at hx1 hz1 ⊢
              clear hXe
              refine (purl_any x _ (HM.out.below hb1) HX.out).mono ?_
              rintro e w2 ⟨rfl, hb2⟩
              have HB2 := Lib.hid (hb1.trans (hb2.mono hb1.size))
              have HC2 := Lib.hid (hc1.trans (hb2.mono hc1.size))
              have hx2 := rangeAt_below hx1 hb2
              have hz2 := Nat.lt_of_lt_of_le hz1 hb2.size
              have HX2 := Lib.hid hx2
              clear hb1 hc1 hx1 hz1 hb2
              go_wp2_with (first | (refine wl_load rfl _ rfl X 0 rfl x HX.out HX2.out ?_) | fail)
              refine (rpurl_any x _ (HM.out.below HB2.out) HX.out).mono ?_
              rintro e w3 ⟨rfl, hb3⟩
              have HB3 := Lib.hid (HB2.out.trans (hb3.mono HB2.out.size))
              have HC3 := Lib.hid (HC2.out.trans (hb3.mono HC2.out.size))
              have HX3 := Lib.hid (rangeAt_below hx2 hb3)
              have hz3 := Nat.lt_of_lt_of_le hz2 hb3.size
              clear hb3 hx2 hz2
              rcases hok : V.compOk x with _ | _
              · have HPR : Hid (V.purlR x = ([], 1)) := Lib.hid (by unfold V.purlR; rw [hok]; rfl)
                clear hok
                rw [HPR.out]
                go_wp2
                go_roundw
                case rel => exact ⟨k + 1, by omega, by go_num, HC3.out⟩
                case measure => simp [intOf]; omega
              · have HPR : Hid (V.purlR x = (V.purl x, 0)) := Lib.hid (by unfold V.purlR; rw [hok]; rfl)
                have HPV : Hid (parseVal (V.purl x) = ({ x with par := -1, dig := V.zeroDig }, true)) := Lib.hid (by unfold parseVal; rw [V.parse_purl hok])
                obtain ⟨ln, lv⟩ := V.compOk_len hok
                have hpl : (V.purl x).length ≤ 400 := by
                  have := V.schName_len x.sch
                  unfold V.purl
                  simp [V.pkg]; omega
                have HY : Hid (CompWf ⟨-1, x.sch, x.name, x.ver, V.zeroDig⟩) := Lib.hid ⟨(by decide : (Lit.int .i64 (-1)).wf = true), HX.out.sch, HX.out.name, HX.out.ver, (by decide : V.zeroDig.length = 32), (by decide : ∀ n ∈ V.zeroDig, (Lit.int .u8 n).wf = true)⟩
                clear hok
                rw [HPR.out]
                go_wp2_with fail
                refine (parsePurl_any _ _ (HM.out.below HB3.out) (by show (V.purl x).toArray.size < _; simp; omega)).mono ?_
                rintro e w4 ⟨rfl, hb4⟩
                rw [bs_mk, HPV.out]
                have HB4 := Lib.hid (HB3.out.trans (hb4.mono HB3.out.size))
                have HC4 := Lib.hid (HC3.out.trans (hb4.mono HC3.out.size))
                have hx4 := rangeAt_below HX3.out hb4
                have hz4 := Nat.lt_of_lt_of_le hz3 hb4.size
                have HBA : Hid (Below w.heap.size w (w4.alloc (.cells (ccells ⟨-1, x.sch, x.name, x.ver, V.zeroDig⟩) 35))) := Lib.hid (HB4.out.alloc HB4.out.size _)
                have HCA : Hid (Below wc.heap.size wc (w4.alloc (.cells (ccells ⟨-1, x.sch, x.name, x.ver, V.zeroDig⟩) 35))) := Lib.hid (HC4.out.alloc HC4.out.size _)
                have x1 : w4.cell? ⟨X, 1, none⟩ = some (.int .i64 x.sch) := hx4 1 _ rfl
                have x2 : w4.cell? ⟨X, 2, none⟩ = some (.string ⟨x.name.toArray⟩) := hx4 2 _ rfl
                have x3 : w4.cell? ⟨X, 3, none⟩ = some (.string ⟨x.ver.toArray⟩) := hx4 3 _ rfl
                have y0 : (ccells ⟨-1, x.sch, x.name, x.ver, V.zeroDig⟩)[0]? = some (.int .i64 (-1)) := rfl
                have y1 : (ccells ⟨-1, x.sch, x.name, x.ver, V.zeroDig⟩)[1]? = some (.int .i64 x.sch) := rfl
                have y2 : (ccells ⟨-1, x.sch, x.name, x.ver, V.zeroDig⟩)[2]? = some (.string ⟨x.name.toArray⟩) := rfl
                have y3 : (ccells ⟨-1, x.sch, x.name, x.ver, V.zeroDig⟩)[3]? = some (.string ⟨x.ver.toArray⟩) := rfl
                unfold cval
                simp only
                clear hb4 hx4 hpl ln lv
                go_wp2_with (first | (refine wl_store rfl _ _ rfl _ _ rfl ⟨-1, x.sch, x.name, x.ver, V.zeroDig⟩ HY.out rfl rfl ?_) | fail)
                go_roundw
                case rel => exact ⟨k + 1, by omega, by go_num, HCA.out⟩
                case measure => simp [intOf]; omega
            · clear HR HMD HAT HBR hBlt
              have hsl : s.size < 4294967281 := by omega
              obtain ⟨pa, hpa⟩ : ∃ p, p = (parseVal s.data.toList).1 := ⟨_, rfl⟩
              obtain ⟨pb, hpb⟩ : ∃ p, p = (parseVal s.data.toList).2 := ⟨_, rfl⟩
              have hpw : CompWf pa := by rw [hpa]; exact parseVal_wf s (by omega)
              have hpu : pb = true → V.purlR pa = (s.data.toList, 0) := by
                rw [hpa, hpb]
                unfold parseVal
                cases hq : V.parseP s.data.toList with
                | none => intro h; cases h
                | some y =>
                  intro _
                  obtain ⟨h1, h2, _⟩ := V.purl_parse hq
                  show V.purlR y = _
                  unfold V.purlR; rw [h1, h2]; rfl
              have HPW := Lib.hid hpw
              have HPU := Lib.hid hpu
              have HPA := Lib.hid hpa
              have HPB := Lib.hid hpb
              have HEQ : Hid (∀ w, (Op.equalIn 10000 35 (.agg (ccells pa)) (.agg (ccells pa))).run Tryd.prog w = .ok true w) := Lib.hid (fun w => by rw [eq_comp hpw hpw w]; simp)
              clear hpw hpu hpa hpb
              go_wp2_with fail
              refine (parsePurl_any s _ (HM.out.below HBW.out) hsl).mono ?_
              rintro e w1 ⟨rfl, hb1⟩
              rw [← HPA.out, ← HPB.out]
              have HB1 := Lib.hid (HBW.out.trans (hb1.mono HBW.out.size))
              clear hb1
              unfold cval
              go_wp2_with (first | (refine wl_store rfl _ _ rfl _ _ rfl pa HPW.out rfl rfl ?_) | fail)
              have hb2 : Below w.heap.size w (w1.alloc (.cells (ccells pa) 35)) := HB1.out.alloc HB1.out.size _
              have hx2 := range_new pa w1 35
              generalize w1.alloc (.cells (ccells pa) 35) = w2 at *
              obtain ⟨X, hXe⟩ : ∃ X, X = w1.heap.size := ⟨_, rfl⟩
              rw [← hXe] at hx2 ⊢
              have HB2 := Lib.hid hb2
              clear hXe hb2
              refine (rparsePurl_any s _ (HM.out.below HB2.out) hsl).mono ?_
              rintro e w3 ⟨rfl, hb3⟩
              rw [← HPA.out, ← HPB.out]
              have HB3 := Lib.hid (HB2.out.trans (hb3.mono HB2.out.size))
              have HX3 := Lib.hid (rangeAt_below hx2 hb3)
              have HX4 : Hid ((w3.alloc (.cells (ccells pa) 35)).rangeAt X 0 (cellsL pa)) := Lib.hid (World.rangeAt_alloc HX3.out _)
              have HY4 := Lib.hid (range_new pa w3 35)
              have HB4 : Hid (Below w.heap.size w (w3.alloc (.cells (ccells pa) 35))) := Lib.hid (HB3.out.alloc HB3.out.size _)
              clear hb3 hx2
              unfold cval
              go_wp2_with (first | (refine wl_store rfl _ _ rfl _ _ rfl pa HPW.out rfl rfl ?_) | (refine wl_load rfl _ rfl X 0 rfl pa HPW.out HX4.out ?_) | (refine wl_load rfl _ rfl w3.heap.size 0 rfl pa HPW.out HY4.out ?_) | (refine wl_neq rfl 35 35 _ _ rfl (ccells pa) (ccells pa) rfl rfl guard_comp true (HEQ.out _) ?_) | fail)
              refine (purl_any pa _ (HM.out.below HB4.out) HPW.out).mono ?_
              rintro e w5 ⟨rfl, hb5⟩
              have HB5 := Lib.hid (HB4.out.trans (hb5.mono HB4.out.size))
              clear hb5
              rcases pb with _ | _
              · generalize (V.purlR pa).1 = u1 at *
                generalize (V.purlR pa).2 = u2 at *
                go_wp2_with fail
                refine (awake19_any _ (HM.out.below HB5.out)).mono ?_
                rintro e w6 ⟨rfl, hb6⟩
                have HB6 := Lib.hid (HB5.out.trans (hb6.mono HB5.out.size))
                clear hb6
                go_wp2
                go_ret
                exact ⟨ret_bool rfl, HB6.out⟩
              · rw [HPU.out rfl]
                simp only
                rw [bs_of]
                go_wp2_with fail
                refine (awake19_any _ (HM.out.below HB5.out)).mono ?_
                rintro e w6 ⟨rfl, hb6⟩
                have HB6 := Lib.hid (HB5.out.trans (hb6.mono HB5.out.size))
                clear hb6
                go_wp2
                go_ret
                exact ⟨ret_bool rfl, HB6.out⟩
end Go.Proofs.YtoiabbhppbghdaaDoor
