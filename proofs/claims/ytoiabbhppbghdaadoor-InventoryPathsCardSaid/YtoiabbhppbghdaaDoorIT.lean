/-
  Walks of the reference: Children, Path, SameInts.
-/
import Derived.Test.YtoiabbhppbghdaaDoorIL
import Derived.Test.YtoiabbhppbghdaaDoorIK
namespace Go.Proofs.YtoiabbhppbghdaaDoor
open Go.RowKit

theorem run_append_nil' {P : Program} {w : World} (base : Nat) (t ty e : TypeId) (i : TypeInfo) (size : Nat) (ht : P.underlying t = some (.slice e)) (hi : P.info? e = some i)
    (v : Value) (n : Nat) (xs : List Value) (hown : w.ownsRow base e size v n xs) (c : Nat) : (Builtin.append_ #[t, t] ty #[v, .slice none 0 c]).run P w = .ok v w := run_append_nil base t ty e i size ht hi v n xs hown c
/-- at the operation: a slice of numbers appended to a row of one's own -/
theorem wl_appendZs {ops : Array Oper} {rest : List Oper} {o : Oper} {a : Act} {w : World} {Q : Exit → Act → World → Prop} (hgd : o.guard = none) (s x : Operand)
    (ho : o.op = .call { callee := .builtin .append, args := #[s, x], argTypes := #[27, 27] })
    (N : Nat) (v : Value) (l : List Int) (hs : a.eval s = v) (hown : ZRow w N v l) (u : Value) (m : List Int) (hx : a.eval x = u) (hu : Zs w u m) (hl : l.length + m.length ≤ 1000000) (hN : N ≤ w.heap.size)
    (h : ∀ v' w', ZRow w' N v' (l ++ m) → w.grownBy w' v.ownBlock → wpList Tryd.prog ops Q rest (a.put o.dst v') w') : wpList Tryd.prog ops Q (o :: rest) a w := by
  obtain ⟨i0, hi, hz0, hz1, hz2⟩ := info_parts info_int19
  obtain ⟨ua, uc, rfl, hat⟩ := hu
  rcases ua with _ | ad
  · have hn : m = [] := by
      cases m with
      | nil => rfl
      | cons c r =>
        obtain ⟨b, off, e, _⟩ := hat 0 (by simp)
        cases e
    subst hn
    refine wpList_plain hgd fun K hK => ?_
    have hrun := run_append_nil (P := Tryd.prog) (w := w) N 27 o.type 3 i0 1 Tryd.underlying27 hi v l.length _ hown uc
    unfold Oper.wp
    simp [execOp, ho, resolve, invoke, builtin, hs, hx, hrun, Result.andThen]
    exact hK _ _ (h v w (by rw [List.append_nil]; exact hown) ⟨rfl, rfl, rfl, Nat.le_refl _, fun _ _ _ => rfl⟩)
  · refine wpList_append_own w hgd s x 27 ho N 3 i0 (.int .i64 0) 1 8 Tryd.underlying27 hi hz0 hz1 hz2 rfl (by decide) v l.length _ hs hown ad m.length uc (m.map (Value.int .i64)) hx (by simp) ?_ ?_ (by unfold maxLen; omega) (by omega) hN ?_
    · intro j u hju
      have hj : j < m.length := by have := (List.getElem?_eq_some_iff.1 hju).1; simpa using this
      obtain ⟨b, off, e, hlt, hr⟩ := hat j hj
      cases e
      rw [Addr.add_mid, hr]
      rw [List.getElem?_map, List.getElem?_eq_getElem hj] at hju
      simpa using hju
    · intro u hu
      obtain ⟨z, _, rfl⟩ := List.mem_map.1 hu
      rfl
    · intro v' w' ho' hg _
      refine h v' w' ?_ hg
      unfold ZRow
      rw [List.length_append, List.map_append]
      exact ho'
theorem ZRow.zs {w : World} {N : Nat} {v : Value} {l : List Int} (h : ZRow w N v l) : Zs w v l := by
  obtain ⟨a, cap, rfl⟩ := h.slice
  refine ⟨a, cap, rfl, fun j hj => ?_⟩
  obtain ⟨g, cap', e, hc⟩ := h.get hj
  cases e
  exact ⟨g, 0, rfl, World.block_lt_of_cell? _ _ hc, by rw [Nat.zero_add]; exact hc⟩
theorem IRow.zrow {w : World} {N : Nat} {v : Value} {l : List Nat} (h : IRow w N v l) : ZRow w N v (l.map fun (i : Nat) => (i : Int)) := by
  unfold ZRow
  rw [List.length_map, List.map_map]
  exact h
theorem Zs.below {w w' : World} {v : Value} {l : List Int} (h : Zs w v l) (hb : Below w.heap.size w w') : Zs w' v l := by
  obtain ⟨a, cap, e, hat⟩ := h
  refine ⟨a, cap, e, fun j hj => ?_⟩
  obtain ⟨b, off, ea, hlt, hc⟩ := hat j hj
  exact ⟨b, off, ea, Nat.lt_of_lt_of_le hlt hb.size, (hb.cell (p := ⟨b, off + j, none⟩) hlt).trans hc⟩

set_option maxRecDepth 100000 in
set_option maxHeartbeats 1600000 in
theorem rkids_any (d : List Int) (time : Int) (v : Value) (l : List V.Comp) (p : Int) (w : World) (hd : d.length = 32) (hv : Comps w v l) (hl : l.length ≤ 100000) :
    Calls Tryd.prog 11 #[.agg (icells d time v), .int .i64 p] w (KidsPost l p w) := by
  have HL := Lib.hid hv
  have h33 := icells_33 hd time v
  obtain ⟨va, vc, rfl, hjunk⟩ := hv
  have hx33 : (w.alloc (.cells (icells d time (.slice va l.length vc)) 26)).cell? ⟨w.heap.size, 33, none⟩ = some (.slice va l.length vc) := by rw [World.cell?_alloc_new]; exact h33
  have hz0 : (w.alloc (.cells (icells d time (.slice va l.length vc)) 26)).heap.size = w.heap.size + 1 := by simp
  have HB0 := Lib.hid ((Below.refl w.heap.size w).alloc (Nat.le_refl _) (.cells (icells d time (.slice va l.length vc)) 26))
  clear hd hjunk h33
  generalize icells d time (.slice va l.length vc) = ic at *
  go_enter Tryd.func11, Tryd.ntmps11
  go_wp2
  generalize w.alloc (.cells ic 26) = W0 at *
  have HZ0 := Lib.hid hz0
  clear hz0
  go_loopw [5, 6] (fun ov iv wr => ∃ k : Nat, k ≤ l.length ∧ iv = .int .i64 k ∧ IRow wr (w.heap.size + 1) ov (V.kidsTo l p k) ∧ Below W0.heap.size W0 wr) (fun _ iv _ => l.length - (intOf iv).toNat)
  case atStart => exact ⟨0, Nat.zero_le _, rfl, IRow.nil _ _, Below.refl _ _⟩
  case round =>
    obtain ⟨k, hk, rfl, hir, hbr⟩ := hrel
    have HIR := Lib.hid hir
    have HBR := Lib.hid hbr
    have hr33 := (hbr.cell (p := ⟨w.heap.size, 33, none⟩) (show w.heap.size < W0.heap.size by have := HZ0.out; omega)).trans hx33
    have HBW := Lib.hid (HB0.out.trans (hbr.mono HB0.out.size))
    have hblk := hir.block
    obtain ⟨oa, oc, hov⟩ := hir.slice
    subst hov
    have hkl := V.kidsTo_len l p k
    clear hir hbr
    by_cases hlt : k < l.length
    · obtain ⟨hxw, b, off, rfl, hblt, hxr⟩ := HL.out.at k hlt
      have HST := Lib.hid (V.kidsTo_step (p := p) hlt)
      have hc := rangeAt_below hxr HBW.out 0 _ rfl
      rw [Nat.add_zero] at hc
      have hi1 : (0 : Int) ≤ (k : Int) := by omega
      have hi2 : (k : Int) < (l.length : Int) := by omega
      clear hxw hxr
      generalize l[k] = x at *
      rcases hp : (x.par == p) with _ | _
      · have HK : Hid (V.kidsTo l p (k + 1) = V.kidsTo l p k) := Lib.hid (by rw [HST.out, hp]; rfl)
        clear HST
        go_wp2
        go_roundw
        case rel => exact ⟨k + 1, by omega, by go_num, by rw [HK.out]; exact HIR.out, HBR.out⟩
        case measure => simp [intOf]; omega
      · have HK : Hid (V.kidsTo l p (k + 1) = V.kidsTo l p k ++ [k]) := Lib.hid (by rw [HST.out, hp]; rfl)
        have HI2 : Hid (IRow (wr.alloc (.cells #[.int .i64 (k : Int)] 3)) (w.heap.size + 1) (.slice oa (V.kidsTo l p k).length oc) (V.kidsTo l p k)) := Lib.hid (HIR.out.kept (row := none) (World.grownBy_alloc _ _ none) (by intro b' e; cases e))
        have HCE : Hid ((wr.alloc (.cells #[.int .i64 (k : Int)] 3)).cell? ⟨wr.heap.size, 0, none⟩ = some (.int .i64 (k : Int))) := Lib.hid (by rw [cell_alloc, if_pos (by simp)]; rfl)
        have HB2 : Hid (Below W0.heap.size W0 (wr.alloc (.cells #[.int .i64 (k : Int)] 3))) := Lib.hid (HBR.out.alloc HBR.out.size _)
        clear HST
        go_wp2_with (first | (refine wl_appendI rfl _ _ rfl (w.heap.size + 1) (.slice oa (V.kidsTo l p k).length oc) (V.kidsTo l p k) rfl HI2.out wr.heap.size k rfl HCE.out (by omega) (by have := HB2.out.size; have := HZ0.out; omega) ?_; intro v' w3 hi3 hg3) | fail)
        rw [← HK.out] at hi3
        have HI3 := Lib.hid hi3
        have HB3 : Hid (Below W0.heap.size W0 w3) := Lib.hid ⟨hg3.os.trans HB2.out.os, hg3.tape.trans HB2.out.tape, hg3.output.trans HB2.out.output, Nat.le_trans HB2.out.size hg3.size, fun i hi => (hg3.block i (Nat.lt_of_lt_of_le hi HB2.out.size) (fun e => by have := hblk i e.symm; have := HZ0.out; omega)).trans (HB2.out.block i hi)⟩
        clear hi3 hg3
        go_wp2
        go_roundw
        case rel => exact ⟨k + 1, by omega, by go_num, HI3.out, HB3.out⟩
        case measure => simp [intOf]; omega
    · obtain rfl : k = l.length := by omega
      go_wp2
      go_ret
      exact ⟨_, rfl, by
        obtain ⟨h1, h2⟩ := HIR.out
        refine ⟨h1, ?_⟩
        rcases h2 with h2 | ⟨g, cap, cur, e, hb, rest⟩
        · exact .inl h2
        · exact .inr ⟨g, cap, cur, e, by omega, rest⟩, HBW.out⟩

set_option maxRecDepth 100000 in
set_option maxHeartbeats 1600000 in
theorem ripath_any (d : List Int) (time : Int) (v : Value) (l : List V.Comp) (i : Int) (w : World) (hm : MaxOk w) (hd : d.length = 32) (hdw : ∀ n ∈ d, (Lit.int .u8 n).wf = true) (hv : Comps w v l) (hl : l.length ≤ 100000) :
    Calls Tryd.prog 9 #[.agg (icells d time v), .int .i64 i] w (PathPost l (V.invOk d time l) i w) := by
  have HM := Lib.hid hm
  have HL := Lib.hid hv
  have HD := Lib.hid hd
  have HDW := Lib.hid hdw
  have h33 := icells_33 hd time v
  have HSZ := Lib.hid (icells_size hd time v)
  obtain ⟨va, vc, rfl, hjunk⟩ := hv
  have HB0 := Lib.hid ((Below.refl w.heap.size w).alloc (Nat.le_refl _) (.cells (icells d time (.slice va l.length vc)) 26))
  clear hd hdw hjunk hm
  go_enter Tryd.func9, Tryd.ntmps9
  go_wp2_with (first | (refine wpList_load_row rfl _ _ rfl w.heap.size rfl _ (icells d time (.slice va l.length vc)) (0, 0) _ (heap_alloc_new w _) Tryd.underlying26 rfl (by rw [invInfo, HSZ.out]) ?_) | fail)
  refine (rvalid19_any d time (.slice va l.length vc) l _ (HM.out.below HB0.out) HD.out HDW.out (HL.out.below (HB0.out.mono (Nat.le_refl _))) (by unfold maxLen; omega)).mono ?_
  rintro e w1 ⟨rfl, hb1⟩
  have HB1 := Lib.hid (HB0.out.trans (hb1.mono HB0.out.size))
  have hg1 : w1.heap[w.heap.size]? = some (.cells (icells d time (.slice va l.length vc)) 26 (0, 0)) := (hb1.block _ (by simp)).trans (heap_alloc_new w _)
  have hz1 : w.heap.size < w1.heap.size := Nat.lt_of_lt_of_le (by simp) hb1.size
  have hc33 : w1.cell? ⟨w.heap.size, 33, none⟩ = some (.slice va l.length vc) := by rw [cell_of_row w1 w.heap.size 33 _ _ _ hg1]; exact h33
  have HVO : Hid (V.invOk d time l = true → V.compsTo l l.length = true) := Lib.hid (fun h => by unfold V.invOk at h; exact (Bool.and_eq_true_iff.1 h).2)
  clear hb1 hg1 h33
  generalize V.invOk d time l = ok at *
  rcases ok with _ | _
  · go_wp2
    go_ret
    refine ⟨_, rfl, ?_, HB1.out⟩
    rw [if_neg (by simp)]
    exact Zs.nil _
  · have HO := Lib.hid (HVO.out rfl)
    by_cases hi0 : i < 0
    · go_wp2
      go_ret
      refine ⟨_, rfl, ?_, HB1.out⟩
      rw [if_neg (by omega)]
      exact Zs.nil _
    · by_cases hil : (l.length : Int) ≤ i
      · go_wp2
        go_ret
        refine ⟨_, rfl, ?_, HB1.out⟩
        rw [if_neg (by omega)]
        exact Zs.nil _
      · have HIN : Hid (0 ≤ i ∧ i < (l.length : Int)) := Lib.hid ⟨by omega, by omega⟩
        have HAL := Lib.hid (V.anc_len HO.out i (by omega))
        go_wp2
        clear hi0 hil
        go_loopw [5, 6] (fun ov kv wr => ∃ (pre : List Int) (kk : Int), kv = .int .i64 kk ∧ -1 ≤ kk ∧ kk < l.length ∧ V.anc l i = pre ++ V.anc l kk ∧ Zs wr ov pre.reverse ∧ Below w1.heap.size w1 wr) (fun _ kv _ => (intOf kv + 1).toNat)
        case atStart => exact ⟨[], i, rfl, by have := HIN.out; omega, HIN.out.2, rfl, Zs.nil _, Below.refl _ _⟩
        case round =>
          obtain ⟨pre, kk, rfl, hk1, hk2, hpre, hzs, hbr⟩ := hrel
          have HPRE := Lib.hid hpre
          have hlen : pre.length ≤ l.length := by have h1 := HAL.out; rw [hpre, List.length_append] at h1; omega
          have hr33 := (hbr.cell (p := ⟨w.heap.size, 33, none⟩) hz1).trans hc33
          have HBR := Lib.hid hbr
          have HBW := Lib.hid (HB1.out.trans (hbr.mono HB1.out.size))
          have HZS := Lib.hid hzs
          obtain ⟨pa, pc, hpv, hjunk⟩ := hzs
          subst hpv
          clear hjunk hbr hpre
          by_cases hk0 : 0 ≤ kk
          · obtain ⟨m, hm⟩ := Int.eq_ofNat_of_zero_le hk0
            have hm' : kk = (m : Int) := hm
            clear hm
            subst hm'
            have hml : m < l.length := by omega
            obtain ⟨_, b, off, rfl, hblt, hxr⟩ := HL.out.at m hml
            have HNX : Hid (V.anc l i = (pre ++ [(m : Int)]) ++ V.anc l l[m].par) := Lib.hid (by rw [HPRE.out, V.anc_step HO.out hml]; simp)
            have hpl := V.par_lt HO.out hml
            have hp1 := hpl.1
            have hp2 := hpl.2
            have hc := rangeAt_below hxr HBW.out 0 _ rfl
            rw [Nat.add_zero] at hc
            clear hxr hpl
            generalize l[m] = x at *
            have hi1 : (0 : Int) ≤ (m : Int) := by omega
            have hi2 : (m : Int) < (l.length : Int) := by omega
            have HZ1 : Hid (ZRow (wr.alloc (.cells #[.int .i64 (m : Int)] 3)) w1.heap.size (.slice (some ⟨wr.heap.size, 0, none⟩) 1 1) [(m : Int)]) := Lib.hid (World.ownsRow_lit wr #[.int .i64 (m : Int)] 1 HBR.out.size (by decide) rfl)
            have HB2 : Hid (Below w1.heap.size w1 (wr.alloc (.cells #[.int .i64 (m : Int)] 3))) := Lib.hid (HBR.out.alloc HBR.out.size _)
            have HZ2 := Lib.hid (HZS.out.below ((Below.refl _ wr).alloc (Nat.le_refl _) (.cells #[.int .i64 (m : Int)] 3)))
            have hzw : w1.heap.size ≤ wr.heap.size := HBR.out.size
            go_wp2_with (first | (refine wl_appendZs rfl _ _ rfl w1.heap.size (.slice (some ⟨wr.heap.size, 0, none⟩) 1 1) [(m : Int)] rfl HZ1.out _ pre.reverse rfl HZ2.out (by simp; omega) HB2.out.size ?_
                                  intro v' w3 hi3 hg3
                                  have hb3 : Below w1.heap.size w1 w3 := HB2.out.trans ⟨hg3.os, hg3.tape, hg3.output, hg3.size, fun q hq => hg3.block q (Nat.lt_of_lt_of_le hq HB2.out.size) (fun e => by simp [Value.ownBlock] at e; omega)⟩
                                  have HZ3 := Lib.hid hi3.zs
                                  have HB3 := Lib.hid hb3
                                  have hs33 := (hb3.cell (p := ⟨w.heap.size, 33, none⟩) hz1).trans hc33
                                  have hcx : w3.cell? ⟨b, off + m * 36, none⟩ = some (.int .i64 x.par) := ((HB1.out.trans (hb3.mono HB1.out.size)).cell (p := ⟨b, off + m * 36, none⟩) hblt).trans ((HBW.out.cell (p := ⟨b, off + m * 36, none⟩) hblt).symm.trans hc)
                                  clear hi3 hg3 hb3 hr33 hc) | fail)
            go_roundw
            case rel => exact ⟨pre ++ [(m : Int)], x.par, rfl, hp1, by omega, HNX.out, by rw [List.reverse_append]; exact HZ3.out, HB3.out⟩
            case measure => simp [intOf]; omega
          · have HEND : Hid (V.anc l i = pre) := Lib.hid (by rw [HPRE.out, V.anc_neg (by omega), List.append_nil])
            go_wp2
            go_ret
            refine ⟨_, rfl, ?_, HBW.out⟩
            rw [if_pos ⟨rfl, HIN.out⟩, HEND.out]
            have hz := HZS.out
            rw [List.length_reverse] at hz
            exact hz

set_option maxRecDepth 100000 in
set_option maxHeartbeats 1600000 in
theorem sameInts_true (v v' : Value) (l : List Int) (w : World) (hv : Zs w v l) (hv' : Zs w v' l) (hl : l.length ≤ 1000000) :
    Calls Tryd.prog 7 #[v, v'] w fun e w' => e = .returned (.bool true) ∧ Below w.heap.size w w' := by
  have HV := Lib.hid hv
  have HV' := Lib.hid hv'
  obtain ⟨va, vc, rfl, hat⟩ := hv
  obtain ⟨va', vc', rfl, hat'⟩ := hv'
  have HA := Lib.hid hat
  have HA' := Lib.hid hat'
  clear hat hat'
  go_enter Tryd.func7, Tryd.ntmps7
  go_wp2
  go_loopw [5] (fun jv wx => ∃ j : Nat, j ≤ l.length ∧ jv = .int .i64 j ∧ Below w.heap.size w wx) (fun jv _ => l.length - (intOf jv).toNat)
  case atStart => exact ⟨0, Nat.zero_le _, rfl, Below.refl _ _⟩
  case round =>
    obtain ⟨j, hj, rfl, hbx⟩ := hrel
    have HBX := Lib.hid hbx
    clear hbx
    by_cases hlt : j < l.length
    · obtain ⟨g, off, rfl, hgl, hc⟩ := HA.out j hlt
      obtain ⟨g', off', rfl, hgl', hc'⟩ := HA'.out j hlt
      have hd := (HBX.out.cell (p := ⟨g, off + j, none⟩) hgl).trans hc
      have hd' := (HBX.out.cell (p := ⟨g', off' + j, none⟩) hgl').trans hc'
      have hi1 : (0 : Int) ≤ (j : Int) := by omega
      have hi2 : (j : Int) < (l.length : Int) := by omega
      clear hc hc'
      generalize l[j] = z at *
      go_wp2
      go_quiet (fail)
      rename_i nq
      clear hd hd'
      have HBN := Lib.hid (below_drewN HBX.out nq)
      generalize wr.drewN nq = w7 at *
      go_wp2
      go_roundw
      case rel => exact ⟨j + 1, by omega, by go_num, HBN.out⟩
      case measure => simp [intOf]; omega
    · obtain rfl : j = l.length := by omega
      go_wp2
      go_ret
      exact ⟨ret_bool rfl, HBX.out⟩
end Go.Proofs.YtoiabbhppbghdaaDoor
