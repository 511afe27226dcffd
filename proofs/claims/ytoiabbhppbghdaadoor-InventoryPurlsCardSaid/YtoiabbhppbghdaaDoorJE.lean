/-
  Walks: components of package URLs.
-/
import Derived.Test.YtoiabbhppbghdaaDoorJD
import Derived.Deep.DeepCutAuto
import Derived.IntWalk
namespace Go.Proofs.YtoiabbhppbghdaaDoor
open Go.RowKit

/-- the component and whether there is one -/
def parseVal (s : V.Bs) : V.Comp × Bool := match V.parseP s with | some c => (c, true) | none => (zeroC, false)

set_option maxRecDepth 100000 in
set_option maxHeartbeats 3200000 in
theorem parsePurl_any (s : ByteArray) (w : World) (hm : MaxOk w) (hs : s.size < 4294967281) :
    Calls Tryd.prog 16 #[.string s] w fun e w' => e = .returned (.tuple #[cval (parseVal s.data.toList).1, .bool (parseVal s.data.toList).2]) ∧ Below w.heap.size w w' := by
  have HM := Lib.hid hm
  clear hm
  go_enter Tryd.func16, Tryd.ntmps16
  go_wp2_with fail
  rw [zero_cells]
  obtain ⟨W0, hW0⟩ : ∃ W0, W0 = w.alloc (.cells (ccells zeroC) 35) := ⟨_, rfl⟩
  have hg0 : W0.heap[w.heap.size]? = some (.cells (ccells zeroC) 35 (0, 0)) := by rw [hW0]; exact heap_alloc_new w _
  have hz0 : W0.heap.size = w.heap.size + 1 := by rw [hW0]; simp
  have hb0 : Below w.heap.size w W0 := by rw [hW0]; exact (Below.refl _ w).alloc (Nat.le_refl _) _
  rw [← hW0]
  clear hW0
  refine (Tryd.strings_CutPrefix s ⟨#[112, 107, 103, 58]⟩ W0).mono ?_
  rintro e W0' ⟨rfl, rfl⟩
  rw [show (ByteArray.mk #[112, 107, 103, 58]).data.toList = V.pkg from rfl]
  obtain ⟨r, hr⟩ : ∃ r, r = Lib.trimPrefix s.data.toList V.pkg := ⟨_, rfl⟩
  obtain ⟨hp, hhp⟩ : ∃ hp, hp = Lib.hasPrefix s.data.toList V.pkg := ⟨_, rfl⟩
  have hrl : r.length ≤ s.size := by rw [hr, ← bs_size]; exact Lib.trimPrefix_le _ _
  have HRP : Hid (hp = true → r = s.data.toList.drop 4) := Lib.hid (fun h => by rw [hr]; unfold Lib.trimPrefix; rw [← hhp, if_pos h]; rfl)
  have HMK : Hid (V.marks s.data.toList = (hp && ((V.cut1 47 (s.data.toList.drop 4)).2.2 && decide (0 ≤ V.lastAt (V.cut1 47 (s.data.toList.drop 4)).2.1)))) := Lib.hid (by rw [hhp]; rfl)
  rw [← hr, ← hhp]
  have HB0 := Lib.hid hb0
  clear hr hhp hb0
  go_wp2_with fail
  refine (cut_any _ 47 _ (HM.out.below HB0.out) (by show r.toArray.size < _; simp; omega)).mono ?_
  rintro e w1 ⟨rfl, hb1⟩
  rw [bs_mk]
  have hg1 : w1.heap[w.heap.size]? = some (.cells (ccells zeroC) 35 (0, 0)) := (hb1.block _ (by omega)).trans hg0
  have HB1 := Lib.hid (HB0.out.trans (hb1.mono HB0.out.size))
  have hz1 : w.heap.size < w1.heap.size := Nat.lt_of_lt_of_le (by omega) hb1.size
  have hcl := cut1_len 47 r
  have HPD : Hid (hp = true → V.parsed s.data.toList = ⟨-1, V.schNum (V.cut1 47 r).1, (V.cut1 47 r).2.1.take (V.lastAt (V.cut1 47 r).2.1).toNat, (V.cut1 47 r).2.1.drop ((V.lastAt (V.cut1 47 r).2.1).toNat + 1), V.zeroDig⟩) := Lib.hid (fun h => by rw [HRP.out h]; rfl)
  have HMK2 : Hid (V.marks s.data.toList = (hp && ((V.cut1 47 r).2.2 && decide (0 ≤ V.lastAt (V.cut1 47 r).2.1)))) := Lib.hid (by
    rw [HMK.out]; rcases hp with _ | _
    · rfl
    · rw [HRP.out rfl])
  clear hb1 hg0 hz0 HRP HMK
  generalize (V.cut1 47 r).1 = kd at *
  generalize (V.cut1 47 r).2.1 = q at *
  generalize (V.cut1 47 r).2.2 = has at *
  go_wp2_with fail
  refine (Tryd.strings_LastIndexByte _ 64 (by show q.toArray.size < _; simp; omega) _).mono ?_
  rintro e w1' ⟨rfl, rfl⟩
  rw [show Lib.lastIndexByte ⟨q.toArray⟩ 64 = V.lastAt q from rfl]
  have hla := V.lastAt_cases q
  rcases hm : V.marks s.data.toList with _ | _
  · have HPV : Hid (parseVal s.data.toList = (zeroC, false)) := Lib.hid (by unfold parseVal V.parseP; rw [hm]; rfl)
    have hmk := HMK2.out
    rw [hm] at hmk
    have hld : hp = false ∨ has = false ∨ decide (V.lastAt q < 0) = true := by
      rcases hp with _ | _
      · exact .inl rfl
      · rcases has with _ | _
        · exact .inr (.inl rfl)
        · refine .inr (.inr ?_)
          simp at hmk
          simpa using hmk
    have hg2 : (w1'.setRow w.heap.size (ccells zeroC)).heap[w.heap.size]? = some (.cells (ccells zeroC) 35 (0, 0)) := setRow_heap w1' w.heap.size _ _ _ _ hg1
    have HB2 := Lib.hid (setRow_below HB1.out (Nat.le_refl _) (ccells zeroC))
    have HG1 := Lib.hid hg1
    have HG2 := Lib.hid hg2
    clear hm hmk hg1 hg2 hla
    generalize V.lastAt q = la at *
    rcases hld with rfl | rfl | hlt
    · go_wp2_with (first | (refine wl_store_at rfl _ _ rfl w.heap.size _ _ HG1.out rfl zeroC zeroC_wf rfl zeroC_wf.size ?_) | fail)
      refine bodyPost_ret (v := .tuple #[.agg (ccells zeroC), .bool false]) ?_ rfl ⟨?_, HB2.out⟩
      · exact results_two Tryd.results16 rfl rfl (loadVar_row zeroC_wf HG2.out)
      · rw [HPV.out]; rfl
    · rcases hp with _ | _
      all_goals
        go_wp2_with (first | (refine wl_store_at rfl _ _ rfl w.heap.size _ _ HG1.out rfl zeroC zeroC_wf rfl zeroC_wf.size ?_) | fail)
        refine bodyPost_ret (v := .tuple #[.agg (ccells zeroC), .bool false]) ?_ rfl ⟨?_, HB2.out⟩
        · exact results_two Tryd.results16 rfl rfl (loadVar_row zeroC_wf HG2.out)
        · rw [HPV.out]; rfl
    · have hlt' : la < 0 := of_decide_eq_true hlt
      clear hlt
      rcases hp with _ | _ <;> rcases has with _ | _
      all_goals
        go_wp2_with (first | (refine wl_store_at rfl _ _ rfl w.heap.size _ _ HG1.out rfl zeroC zeroC_wf rfl zeroC_wf.size ?_) | fail)
        refine bodyPost_ret (v := .tuple #[.agg (ccells zeroC), .bool false]) ?_ rfl ⟨?_, HB2.out⟩
        · exact results_two Tryd.results16 rfl rfl (loadVar_row zeroC_wf HG2.out)
        · rw [HPV.out]; rfl
  · have hmk := HMK2.out
    rw [hm] at hmk
    rcases hp with _ | _
    · cases hmk
    rcases has with _ | _
    · cases hmk
    have hge : 0 ≤ V.lastAt q := by simpa using hmk
    rcases hla with ⟨e, _⟩ | ⟨k, hk, e, hq1, hq2⟩
    · rw [e] at hge; omega
    rw [e] at HPD
    have HP := Lib.hid (HPD.out rfl)
    rw [e]
    obtain ⟨c, hc⟩ : ∃ c : V.Comp, c = ⟨-1, V.schNum kd, ((⟨q.toArray⟩ : ByteArray).extract 0 k).data.toList, ((⟨q.toArray⟩ : ByteArray).extract (k + 1) q.length).data.toList, List.replicate 32 0⟩ := ⟨_, rfl⟩
    have hcp : c = V.parsed s.data.toList := by
      rw [hc, HP.out, Lib.extract_data, Lib.extract_data]
      simp [List.take_of_length_le, V.zeroDig]
    have hsz : (⟨q.toArray⟩ : ByteArray).size = q.length := by show q.toArray.size = _; simp
    have HCD := Lib.hid hc
    have HCP := Lib.hid hcp
    clear hmk hge e hc hcp HPD HP hq1 hq2
    have hk4 : k < 4294967281 := by omega
    have wr1 : IntKind.i64.wrap ((k : Int) + 1) = (k : Int) + 1 := IntWalk.i64_in _ (by omega)
    have k0 : (0 : Int) ≤ (k : Int) := by omega
    have k1 : (k : Int) ≤ (q.length : Int) := by omega
    have k2 : (0 : Int) ≤ (k : Int) + 1 := by omega
    have k3 : (k : Int) + 1 ≤ (q.length : Int) := by omega
    go_wp2_with fail
    obtain ⟨x1, hx1⟩ : ∃ x, x = (⟨q.toArray⟩ : ByteArray).extract 0 k := ⟨_, rfl⟩
    obtain ⟨x2, hx2⟩ : ∃ x, x = (⟨q.toArray⟩ : ByteArray).extract (k + 1) q.length := ⟨_, rfl⟩
    obtain ⟨nn, hnn⟩ : ∃ n, n = V.schNum kd := ⟨_, rfl⟩
    have HNN : Hid (∀ w, Calls Tryd.prog 39 #[.string ⟨kd.toArray⟩] w fun e w' => e = .returned (.int .i64 nn) ∧ w' = w) := Lib.hid (by rw [hnn]; exact fun w => schNum_any ⟨kd.toArray⟩ w)
    have hcw : CompWf ⟨-1, nn, x1.data.toList, x2.data.toList, List.replicate 32 0⟩ := by
      refine ⟨(by decide : (Lit.int .i64 (-1)).wf = true), ?_, ?_, ?_, (by decide : (List.replicate 32 (0 : Int)).length = 32), (by decide : ∀ n ∈ List.replicate 32 (0 : Int), (Lit.int .u8 n).wf = true)⟩
      · show (Lit.int .i64 nn).wf = true
        rw [hnn]
        unfold V.schNum
        repeat' split
        all_goals decide
      · show x1.data.toList.length ≤ maxLen
        rw [hx1, Lib.extract_data]; unfold maxLen; simp; omega
      · show x2.data.toList.length ≤ maxLen
        rw [hx2, Lib.extract_data]; unfold maxLen; simp; omega
    have HCW := Lib.hid hcw
    have HC2 : Hid (c = ⟨-1, nn, x1.data.toList, x2.data.toList, List.replicate 32 0⟩) := Lib.hid (by rw [HCD.out, hnn, hx1, hx2])
    have HX1 := Lib.hid hx1
    have HX2 := Lib.hid hx2
    clear hcw hx1 hx2 hnn HCD
    refine wp_region_any (by kernel_rfl) ?_
    change wpAny _ _ _ _ _ _ _ (World.drew _)
    have HBD := Lib.hid HB1.out.drew
    have HGD : Hid (w1'.drew.heap[w.heap.size]? = some (.cells (ccells zeroC) 35 (0, 0))) := Lib.hid hg1
    have hzd : w.heap.size < w1'.drew.heap.size := hz1
    clear hg1 hz1 HB1
    generalize w1'.drew = wd at *
    refine wpAny_take (i := 0) (v := .string ⟨kd.toArray⟩) rfl (by kernel_rfl) (by kernel_rfl) (by kernel_rfl) (fun _ _ _ h => h) (Or.inl ⟨by rfl, fun w => by go_simp⟩) ?_
    refine wpAny_take (i := 2) (v := .string ⟨q.toArray⟩) rfl (by kernel_rfl) (by kernel_rfl) (by kernel_rfl) (fun _ _ _ h => h) (Or.inl ⟨by rfl, fun w => by go_simp⟩) ?_
    refine wpAny_take (i := 3) (v := .int .i64 k) rfl (by kernel_rfl) (by kernel_rfl) (by kernel_rfl) (fun _ _ _ h => h) (Or.inl ⟨by rfl, fun w => by go_simp⟩) ?_
    refine wpAny_take (i := 4) (v := .string x1) rfl (by kernel_rfl) (by kernel_rfl) (by kernel_rfl) (fun _ _ _ h => h) (Or.inl ⟨by rfl, fun w => by go_simp; exact HX1.out.symm⟩) ?_
    refine wpAny_take (i := 5) (v := .string ⟨q.toArray⟩) rfl (by kernel_rfl) (by kernel_rfl) (by kernel_rfl) (fun _ _ _ h => h) (Or.inl ⟨by rfl, fun w => by go_simp⟩) ?_
    refine wpAny_take (i := 6) (v := .int .i64 k) rfl (by kernel_rfl) (by kernel_rfl) (by kernel_rfl) (fun _ _ _ h => h) (Or.inl ⟨by rfl, fun w => by go_simp⟩) ?_
    refine wpAny_take (i := 7) (v := .int .i64 ((k : Int) + 1)) rfl (by kernel_rfl) (by kernel_rfl) (by kernel_rfl) (fun _ _ _ h => h) (Or.inl ⟨by rfl, fun w => by go_simp⟩) ?_
    refine wpAny_take (i := 8) (v := .string x2) rfl (by kernel_rfl) (by kernel_rfl) (by kernel_rfl) (fun _ _ _ h => h) (Or.inl ⟨by rfl, fun w => by go_simp; exact HX2.out.symm⟩) ?_
    simp only [List.getElem_toArray, List.getElem_cons_succ, List.getElem_cons_zero, Act.put, List.setIfInBounds_toArray, List.set_cons_succ, List.set_cons_zero]
    refine wpAny_ready (rs := [1, 10]) (by kernel_rfl) (by simp) ?_
    refine AllReady.cons (o := { dst := some 35, op := Op.call { callee := Callee.value (Operand.func 39), args := #[Operand.tmp 34], argTypes := #[9] }, type := 3, pos := "inventory.go:181", after := #[{ on := 0, ground := Ground.data }], guard := none }) (by kernel_rfl) (fun K hK => step_quiet rfl 39 #[.string ⟨kd.toArray⟩] (.int .i64 nn) (by go_simp) (HNN.out _) (hK _ _ ?ga)) (AllReady.cons (o := { dst := some 9, op := Op.alloc 35, type := 0, pos := "inventory.go:181", after := #[], guard := none }) (by kernel_rfl) (fun K hK => step_alloc rfl rfl (hK _ _ ?gb)) AllReady.nil)
    case' ga =>
      clear hK K
      simp only [List.getElem_toArray, List.getElem_cons_succ, List.getElem_cons_zero, Act.put, List.setIfInBounds_toArray, List.set_cons_succ, List.set_cons_zero]
      refine wpAny_take (i := 9) (v := .agg #[.int .i64 (-1), .int .i64 nn, .string x1, .string x2, Value.int .u8 0, Value.int .u8 0, Value.int .u8 0, Value.int .u8 0, Value.int .u8 0, Value.int .u8 0, Value.int .u8 0, Value.int .u8 0, Value.int .u8 0, Value.int .u8 0, Value.int .u8 0, Value.int .u8 0, Value.int .u8 0, Value.int .u8 0, Value.int .u8 0, Value.int .u8 0, Value.int .u8 0, Value.int .u8 0, Value.int .u8 0, Value.int .u8 0, Value.int .u8 0, Value.int .u8 0, Value.int .u8 0, Value.int .u8 0, Value.int .u8 0, Value.int .u8 0, Value.int .u8 0, Value.int .u8 0, Value.int .u8 0, Value.int .u8 0, Value.int .u8 0, Value.int .u8 0]) rfl (by kernel_rfl) (by kernel_rfl) (by kernel_rfl) (fun _ _ _ h => h) (Or.inl ⟨by rfl, fun w => by go_simp⟩) ?_
      refine wpAny_ready (rs := [10]) (by kernel_rfl) (by simp) ?_
      refine AllReady.cons (o := { dst := some 9, op := Op.alloc 35, type := 0, pos := "inventory.go:181", after := #[], guard := none }) (by kernel_rfl) (fun K hK => step_alloc rfl rfl (hK _ _ ?_)) AllReady.nil
      clear hK K
      simp only [List.getElem_toArray, List.getElem_cons_succ, List.getElem_cons_zero, Act.put, List.setIfInBounds_toArray, List.set_cons_succ, List.set_cons_zero]
      refine wpAny_ready (rs := [11]) (by kernel_rfl) (by simp) ?_
      refine AllReady.cons (o := { dst := none, op := Op.store 35 (Operand.tmp 9) (Operand.tmp 43), type := 0, pos := "inventory.go:181", after := #[{ on := 10, ground := Ground.data }, { on := 9, ground := Ground.data }, { on := 1, ground := Ground.chain }, { on := 0, ground := Ground.phase }, { on := 1, ground := Ground.phase }, { on := 2, ground := Ground.phase }, { on := 3, ground := Ground.phase }, { on := 4, ground := Ground.phase }, { on := 5, ground := Ground.phase }, { on := 6, ground := Ground.phase }, { on := 7, ground := Ground.phase }, { on := 8, ground := Ground.phase }, { on := 9, ground := Ground.phase }, { on := 10, ground := Ground.phase }], guard := none }) (by kernel_rfl) (fun K hK => ?_) AllReady.nil
      refine step_store rfl (.tmp 9) (.tmp 43) rfl (ccells zeroC) 35 ?hx ⟨-1, nn, x1.data.toList, x2.data.toList, List.replicate 32 0⟩ HCW.out ?hy zeroC_wf.size ?hr
      case hx => rfl
      case hy => exact congrArg Value.agg (lit_cells _ _ _ _)
      case' hr =>
      refine hK _ _ ?_
      clear hK K
      refine wpAny_done (by kernel_rfl) ?_ _
      simp only [List.getElem_toArray, List.getElem_cons_succ, List.getElem_cons_zero, Act.put, List.setIfInBounds_toArray, List.set_cons_succ, List.set_cons_zero]
    case' gb =>
      clear hK K
      simp only [List.getElem_toArray, List.getElem_cons_succ, List.getElem_cons_zero, Act.put, List.setIfInBounds_toArray, List.set_cons_succ, List.set_cons_zero]
      refine wpAny_ready (rs := [1]) (by kernel_rfl) (by simp) ?_
      refine AllReady.cons (o := { dst := some 35, op := Op.call { callee := Callee.value (Operand.func 39), args := #[Operand.tmp 34], argTypes := #[9] }, type := 3, pos := "inventory.go:181", after := #[{ on := 0, ground := Ground.data }], guard := none }) (by kernel_rfl) (fun K hK => step_quiet rfl 39 #[.string ⟨kd.toArray⟩] (.int .i64 nn) (by go_simp) (HNN.out _) (hK _ _ ?_)) AllReady.nil
      clear hK K
      simp only [List.getElem_toArray, List.getElem_cons_succ, List.getElem_cons_zero, Act.put, List.setIfInBounds_toArray, List.set_cons_succ, List.set_cons_zero]
      refine wpAny_take (i := 9) (v := .agg #[.int .i64 (-1), .int .i64 nn, .string x1, .string x2, Value.int .u8 0, Value.int .u8 0, Value.int .u8 0, Value.int .u8 0, Value.int .u8 0, Value.int .u8 0, Value.int .u8 0, Value.int .u8 0, Value.int .u8 0, Value.int .u8 0, Value.int .u8 0, Value.int .u8 0, Value.int .u8 0, Value.int .u8 0, Value.int .u8 0, Value.int .u8 0, Value.int .u8 0, Value.int .u8 0, Value.int .u8 0, Value.int .u8 0, Value.int .u8 0, Value.int .u8 0, Value.int .u8 0, Value.int .u8 0, Value.int .u8 0, Value.int .u8 0, Value.int .u8 0, Value.int .u8 0, Value.int .u8 0, Value.int .u8 0, Value.int .u8 0, Value.int .u8 0]) rfl (by kernel_rfl) (by kernel_rfl) (by kernel_rfl) (fun _ _ _ h => h) (Or.inl ⟨by rfl, fun w => by go_simp⟩) ?_
      simp only [List.getElem_toArray, List.getElem_cons_succ, List.getElem_cons_zero, Act.put, List.setIfInBounds_toArray, List.set_cons_succ, List.set_cons_zero]
      refine wpAny_ready (rs := [11]) (by kernel_rfl) (by simp) ?_
      refine AllReady.cons (o := { dst := none, op := Op.store 35 (Operand.tmp 9) (Operand.tmp 43), type := 0, pos := "inventory.go:181", after := #[{ on := 10, ground := Ground.data }, { on := 9, ground := Ground.data }, { on := 1, ground := Ground.chain }, { on := 0, ground := Ground.phase }, { on := 1, ground := Ground.phase }, { on := 2, ground := Ground.phase }, { on := 3, ground := Ground.phase }, { on := 4, ground := Ground.phase }, { on := 5, ground := Ground.phase }, { on := 6, ground := Ground.phase }, { on := 7, ground := Ground.phase }, { on := 8, ground := Ground.phase }, { on := 9, ground := Ground.phase }, { on := 10, ground := Ground.phase }], guard := none }) (by kernel_rfl) (fun K hK => ?_) AllReady.nil
      refine step_store rfl (.tmp 9) (.tmp 43) rfl (ccells zeroC) 35 ?hx ⟨-1, nn, x1.data.toList, x2.data.toList, List.replicate 32 0⟩ HCW.out ?hy zeroC_wf.size ?hr
      case hx => rfl
      case hy => exact congrArg Value.agg (lit_cells _ _ _ _)
      case' hr =>
      refine hK _ _ ?_
      clear hK K
      refine wpAny_done (by kernel_rfl) ?_ _
      simp only [List.getElem_toArray, List.getElem_cons_succ, List.getElem_cons_zero, Act.put, List.setIfInBounds_toArray, List.set_cons_succ, List.set_cons_zero]
    all_goals
      rw [← HC2.out]
      have hb2 : Below w.heap.size w (wd.alloc (.cells (ccells c) 35)) := HBD.out.alloc (by omega) _
      have hgn : (wd.alloc (.cells (ccells c) 35)).heap[wd.heap.size]? = some (.cells (ccells c) 35 (0, 0)) := heap_alloc_new wd _
      have hgr : (wd.alloc (.cells (ccells c) 35)).heap[w.heap.size]? = some (.cells (ccells zeroC) 35 (0, 0)) := by rw [heap_alloc_old wd _ hzd]; exact HGD.out
      have hzn : wd.heap.size < (wd.alloc (.cells (ccells c) 35)).heap.size := by simp
      obtain ⟨W2, hW2⟩ : ∃ W2, W2 = wd.alloc (.cells (ccells c) 35) := ⟨_, rfl⟩
      rw [← hW2] at hb2 hgn hgr hzn ⊢
      obtain ⟨g, hgd⟩ : ∃ g, g = wd.heap.size := ⟨_, rfl⟩
      rw [← hgd] at hgn hzd hzn ⊢
      have HB2 := Lib.hid hb2
      have HGN := Lib.hid hgn
      have HGR := Lib.hid hgr
      have HCC : Hid (CompWf c) := Lib.hid (by rw [HC2.out]; exact HCW.out)
      clear hb2 hgn hgr hW2 hgd wr1 k0 k1 k2 k3
      go_wp2_with (first | (refine wl_load rfl _ rfl g 0 rfl c HCC.out (range_row HGN.out) ?_) | fail)
      refine (component_any c _ (HM.out.below HB2.out) HCC.out).mono ?_
      rintro e w3 ⟨rfl, hb3⟩
      have HB3 := Lib.hid (HB2.out.trans (hb3.mono HB2.out.size))
      have HGN3 := Lib.hid ((hb3.block _ hzn).trans HGN.out)
      have HGR3 := Lib.hid ((hb3.block _ (by omega)).trans HGR.out)
      clear hb3
      rcases hk : V.compOk c with _ | _
      · have HPV : Hid (parseVal s.data.toList = (zeroC, false)) := Lib.hid (by unfold parseVal V.parseP; rw [hm, ← HCP.out, hk]; rfl)
        have HG4 := Lib.hid (setRow_heap w3 w.heap.size _ (ccells zeroC) _ _ HGR3.out)
        have HB4 := Lib.hid (setRow_below HB3.out (Nat.le_refl _) (ccells zeroC))
        clear hk
        go_wp2_with (first | (refine wl_store_at rfl _ _ rfl w.heap.size _ _ HGR3.out rfl zeroC zeroC_wf rfl zeroC_wf.size ?_) | fail)
        refine bodyPost_ret (v := .tuple #[.agg (ccells zeroC), .bool false]) ?_ rfl ⟨?_, HB4.out⟩
        · exact results_two Tryd.results16 rfl rfl (loadVar_row zeroC_wf HG4.out)
        · rw [HPV.out]; rfl
      · have HPV : Hid (parseVal s.data.toList = (c, true)) := Lib.hid (by unfold parseVal V.parseP; rw [hm, ← HCP.out, hk]; rfl)
        have HG4 := Lib.hid (setRow_heap w3 w.heap.size _ (ccells c) _ _ HGR3.out)
        have HB4 := Lib.hid (setRow_below HB3.out (Nat.le_refl _) (ccells c))
        clear hk
        go_wp2_with (first | (refine wl_load rfl _ rfl g 0 rfl c HCC.out (range_row HGN3.out) ?_) | (refine wl_store_at rfl _ _ rfl w.heap.size _ _ HGR3.out rfl c HCC.out rfl zeroC_wf.size ?_) | fail)
        refine bodyPost_ret (v := .tuple #[.agg (ccells c), .bool true]) ?_ rfl ⟨?_, HB4.out⟩
        · exact results_two Tryd.results16 rfl rfl (loadVar_row HCC.out HG4.out)
        · rw [HPV.out]; rfl
end Go.Proofs.YtoiabbhppbghdaaDoor
