/-
  The law InventoryPaths: the statement and its card. For every input the law returns true.
-/
import Derived.Test.YtoiabbhppbghdaaDoorIV
import Derived.Test.YtoiabbhppbghdaaDoorO1
import Derived.Test.YtoiabbhppbghdaaDoorIS
import Derived.Test.YtoiabbhppbghdaaDoorZ0
import Derived.HandedShaped
namespace Go.Proofs.YtoiabbhppbghdaaDoor.inventoryPaths
open Go.ChangeShapes Go.WideShapes Go.ChangeAt Go.RowKit
open Go.ChangeMaps (open_string shut_string)

set_option maxRecDepth 100000 in
theorem contract (H : Type) (enc : TypeId × Value → H) (W : World) (base : Nat) (args : Array Value) (ds gs : List (DataW H)) (before : List MemPlace)
    (hval : ∀ (j : Nat) t v, Tryd.f3.params[j]? = some t → args[j]? = some v → Value.okWide Tryd.prog W .any base t v)
    (hW : DataW.Whole enc Tryd.prog Tryd.f3.params.toList Rows.inventoryPathsSpec.vars false W args.toList ds gs before) (hsh : W.ShapedOpen Tryd.prog) :
    Calls Tryd.prog 3 args W fun e W' => ∃ v, e = .returned v ∧ Rows.inventoryPathsSpec.post enc Tryd.prog Tryd.f3 false true false false W args v W' := by
  have hmax : MaxOk W := Tryd.laysM145.s1_3 W hsh
  have hW' := hW
  obtain ⟨p, q, hA0, hV, rfl, hfz, hnd⟩ := hW
  have hA : DataW.TrodAll enc Tryd.prog W 0 (fun _ => true) true Tryd.f3.params.toList args.toList ds p := hA0
  rw [Tryd.params3] at hA hval
  obtain ⟨v0, v1, v2, d0, d1, d2, p0, p1, p2, rfl, rfl, rfl, h0, h1, h2⟩ := trodAll_three hA
  obtain ⟨rfl, rfl⟩ := trodVars_none hV
  have hk0 := h0
  have hk2 := h2
  obtain ⟨x0, e0, wf0, wg0, wh0⟩ := read_inv (hval 0 _ v0 rfl rfl) h0
  obtain ⟨n1, rfl, rfl, rfl, wf1⟩ := open_int Tryd.underlying3 (hval 1 3 v1 rfl rfl) h1
  obtain ⟨a2, m2, c2, e2, wf2⟩ := read_nums (hval 2 _ v2 rfl rfl) h2
  subst e0
  subst e2
  clear hA0 hA hval
  have hlt0 : ∀ x ∈ p0, x.block < W.heap.size := fun x hx => hW'.lt x (by simp [hx])
  have hlt2 : ∀ x ∈ p2, x.block < W.heap.size := fun x hx => hW'.lt x (by simp [hx])
  refine (inventoryPaths_any x0 n1 a2 m2 c2 W hmax wf0 wg0 wh0 wf1 wf2).mono fun e W' ⟨he, hB⟩ => ?_
  subst he
  refine ⟨_, rfl, [d0, .lit (.int .i64 n1), d2], [], p0 ++ [] ++ p2 ++ [], [], p0 ++ ([] ++ p2), [], ?_, ?_, ?_, ?_, hB.frame _, fun h => by cases h⟩
  · simpa using hW'
  · exact trodAll_mk1 (shut_bool Tryd.underlying4 _)
  · exact trodAll_mk3 (Below.trod laying.laidOut (by kernel_rfl) (of_decide_eq_true (by kernel_rfl)) hk0 hB hlt0) (shut_int Tryd.underlying3 wf1) (Below.trod laying.laidOut (by kernel_rfl) (of_decide_eq_true (by kernel_rfl)) hk2 hB hlt2)
  · exact rfl

set_option maxRecDepth 100000 in
theorem laid_met (os : Os) : laidMet Tryd.prog Rows.inventoryPathsRow.laid ((laying.laidWorld os).forCall (fun _ _ => 0) ⟨#[], #[.agg (icells zero32 0 (.slice none 0 0)), .int .i64 0, .slice none 0 0], []⟩).memory :=
  laidMet_of_run' 8 (by kernel_rfl) (by kernel_rfl)
theorem reads (os : Os) {H : Type} (enc : TypeId × Value → H) : ∃ places, DataW.whole enc Tryd.prog ((laying.laidWorld os).forCall (fun _ _ => 0) ⟨#[], #[.agg (icells zero32 0 (.slice none 0 0)), .int .i64 0, .slice none 0 0], []⟩).memory Tryd.f3.params.toList Rows.inventoryPathsSpec.vars false #[Value.agg (icells zero32 0 (.slice none 0 0)), Value.int .i64 0, Value.slice none 0 0].toList 8 = some ([.agg [.agg (List.replicate 32 (.lit (.int .u8 0))), .lit (.int .i64 0), .nil], .lit (.int .i64 0), .nil], [], places) :=
  ⟨[], by kernel_rfl⟩

set_option maxRecDepth 100000 in
theorem lifted (os : Os) (started : os.Started) (H : Type) (enc : TypeId × Value → H) (F : Stop.Interp) :
    ReturnsInHanded {} Tryd.checked os 3 .any ((OpenSpec.ofChange Rows.inventoryPathsSpec).preRow enc Tryd.prog Tryd.f3 Rows.inventoryPathsRow.domain false Rows.inventoryPathsRow.laid) (((OpenSpec.ofChange Rows.inventoryPathsSpec).at F).post enc Tryd.prog Tryd.f3 false true false false) := by
  obtain ⟨places, hx⟩ := reads os enc
  refine returnsInHanded_of_row (C := Tryd.checked) (s := OpenSpec.ofChange Rows.inventoryPathsSpec) laying.own started (by kernel_rfl) Tryd.func3
    (witness_row_at (enc := enc) (C := Tryd.checked) false (laying.laidWorld os) #[.agg (icells zero32 0 (.slice none 0 0)), .int .i64 0, .slice none 0 0] rfl (by kernel_rfl) (by kernel_rfl) (by kernel_rfl)
      (OpenSpec.preRow_of_cond 8 hx (by kernel_rfl) (fun k hk => by cases hk) (by kernel_rfl) (laid_met os))) ?_
  intro W base args ds gs before hval hW _ _ _ _ hsh _
  exact contract H enc W base args ds gs before hval hW hsh

theorem said : Rows.InventoryPathsSaid :=
  OpenClaim.holds_of_cond 3 Tryd.f3 rfl rfl rfl rfl rfl rfl rfl ⟨rfl, rfl, rfl, rfl, rfl⟩ rfl rfl rfl rfl rfl (by kernel_rfl) Tryd.func3 (by kernel_rfl)
    (of_decide_eq_true (by kernel_rfl)) (by unfold Func.isWrapper; first | (rw [if_pos (by decide +kernel)]; kernel_rfl) | (rw [if_neg (by decide +kernel)]; exact ⟨rfl, rfl⟩))
    (fun os started H enc _ F => by rw [OpenClaim.pre_eq_preRow]; exact lifted os started H enc F)

theorem plain (f : FuncId) (fn : Func) (hf : Tryd.pinned.checked.prog.funcNamed "admission/admissionlaw19.InventoryPaths" = some f) (hfn : Tryd.pinned.checked.prog.funcs[f]? = some fn) :
    false = Tryd.pinned.checked.prog.looks [] ∧ ∀ (j : Nat) t, fn.params[j]? = some t → Tryd.pinned.checked.prog.wantsStandIn t = false := by
  obtain rfl : f = 3 := Option.some.inj ((show Tryd.prog.funcNamed "admission/admissionlaw19.InventoryPaths" = some 3 by kernel_rfl).symm.trans hf) |>.symm
  obtain rfl : fn = Tryd.f3 := (Option.some.inj (Tryd.func3.symm.trans hfn)).symm
  refine ⟨by kernel_rfl, fun j t ht => ?_⟩
  rw [Tryd.params3] at ht
  have hmem := Array.mem_of_getElem? ht
  have hc : t = 26 ∨ t = 3 ∨ t = 27 := by simpa using hmem
  rcases hc with rfl | rfl | rfl
  · exact (show Tryd.prog.wantsStandIn 26 = false by kernel_rfl)
  · exact (show Tryd.prog.wantsStandIn 3 = false by kernel_rfl)
  · exact (show Tryd.prog.wantsStandIn 27 = false by kernel_rfl)

theorem card : Rows.InventoryPathsCardSaid :=
  Claim7.holds_tied_plain_at .later [] _ _ _ _ said (fun _ h => by cases h) (by kernel_rfl) (fun _ h => by cases h) inventoryPaths_row_tie rfl ⟨rfl, rfl⟩ (by kernel_rfl) rfl plain (by kernel_rfl)
end Go.Proofs.YtoiabbhppbghdaaDoor.inventoryPaths
