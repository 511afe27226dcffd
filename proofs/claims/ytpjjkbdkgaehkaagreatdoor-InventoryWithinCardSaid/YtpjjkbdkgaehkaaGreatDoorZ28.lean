/-
  The law InventoryWithin: the statement and its card. For every input the law returns true.
-/
import Derived.Test.YtpjjkbdkgaehkaaGreatDoorWC
import Derived.Test.YtpjjkbdkgaehkaaGreatDoorZ0
import Derived.Test.YtpjjkbdkgaehkaaGreatDoorIS
import Derived.HandedShaped
namespace Go.Proofs.YtpjjkbdkgaehkaaGreatDoor.inventoryWithin
open Go.ChangeShapes Go.WideShapes Go.ChangeAt Go.RowKit
open Go.ChangeMaps (open_string shut_string)

set_option maxRecDepth 100000 in
theorem contract (H : Type) (enc : TypeId × Value → H) (W : World) (base : Nat) (args : Array Value) (ds gs : List (DataW H)) (before : List MemPlace)
    (hval : ∀ (j : Nat) t v, Tryz.f4.params[j]? = some t → args[j]? = some v → Value.okWide Tryz.prog W .any base t v)
    (hW : DataW.Whole enc Tryz.prog Tryz.f4.params.toList Rows.inventoryWithinSpec.vars false W args.toList ds gs before) (hsh : W.ShapedOpen Tryz.prog) :
    Calls Tryz.prog 4 args W fun e W' => ∃ v, e = .returned v ∧ Rows.inventoryWithinSpec.post enc Tryz.prog Tryz.f4 false true false false W args v W' := by
  have hmax : MaxOk W := Tryz.laysM145.s1_3 W hsh
  have hW' := hW
  obtain ⟨p, q, hA0, hV, rfl, hfz, hnd⟩ := hW
  have hA : DataW.TrodAll enc Tryz.prog W 0 (fun _ => true) true Tryz.f4.params.toList args.toList ds p := hA0
  rw [Tryz.params4] at hA hval
  obtain ⟨v0, v1, v2, d0, d1, d2, p0, p1, p2, rfl, rfl, rfl, h0, h1, h2⟩ := trodAll_three hA
  obtain ⟨rfl, rfl⟩ := trodVars_none hV
  have hk0 := h0
  have hk1 := h1
  have hk2 := h2
  obtain ⟨x0, e0, wf0, wg0, wh0⟩ := read_inv (hval 0 _ v0 rfl rfl) h0
  obtain ⟨n1, s1, r1, u1, l1, e1, wf1, wg1, wh1, wk1⟩ := read_query (hval 1 _ v1 rfl rfl) h1
  obtain ⟨a2, m2, c2, e2, wf2⟩ := read_nums (hval 2 _ v2 rfl rfl) h2
  subst e0
  subst e1
  subst e2
  clear hA0 hA hval
  have hlt0 : ∀ x ∈ p0, x.block < W.heap.size := fun x hx => hW'.lt x (by simp [hx])
  have hlt1 : ∀ x ∈ p1, x.block < W.heap.size := fun x hx => hW'.lt x (by simp [hx])
  have hlt2 : ∀ x ∈ p2, x.block < W.heap.size := fun x hx => hW'.lt x (by simp [hx])
  refine (inventoryWithin_any x0 n1 s1 r1 u1 l1 a2 m2 c2 W hmax wf0 wg0 wh0 wf1 wg1 wh1 wk1 wf2).mono fun e W' ⟨he, hB⟩ => ?_
  subst he
  refine ⟨_, rfl, [d0, d1, d2], [], p0 ++ p1 ++ p2 ++ [], [], p0 ++ (p1 ++ p2), [], ?_, ?_, ?_, ?_, hB.frame _, fun h => by cases h⟩
  · simpa using hW'
  · exact trodAll_mk1 (shut_bool Tryz.underlying4 _)
  · exact trodAll_mk3 (Below.trod laying.laidOut (by kernel_rfl) (of_decide_eq_true (by kernel_rfl)) hk0 hB hlt0) (Below.trod laying.laidOut (by kernel_rfl) (of_decide_eq_true (by kernel_rfl)) hk1 hB hlt1) (Below.trod laying.laidOut (by kernel_rfl) (of_decide_eq_true (by kernel_rfl)) hk2 hB hlt2)
  · exact rfl

set_option maxRecDepth 100000 in
theorem laid_met (os : Os) : laidMet Tryz.prog Rows.inventoryWithinRow.laid ((laying.laidWorld os).forCall (fun _ _ => 0) ⟨#[], #[.agg (icells zero32 0 (.slice none 0 0)), .agg #[.int .i64 0, .string ⟨#[]⟩, .int .i64 0, .slice none 0 0], .slice none 0 0], []⟩).memory :=
  laidMet_of_run' 8 (by kernel_rfl) (by kernel_rfl)
theorem reads (os : Os) {H : Type} (enc : TypeId × Value → H) : ∃ places, DataW.whole enc Tryz.prog ((laying.laidWorld os).forCall (fun _ _ => 0) ⟨#[], #[.agg (icells zero32 0 (.slice none 0 0)), .agg #[.int .i64 0, .string ⟨#[]⟩, .int .i64 0, .slice none 0 0], .slice none 0 0], []⟩).memory Tryz.f4.params.toList Rows.inventoryWithinSpec.vars false #[Value.agg (icells zero32 0 (.slice none 0 0)), Value.agg #[.int .i64 0, .string ⟨#[]⟩, .int .i64 0, .slice none 0 0], Value.slice none 0 0].toList 8 = some ([.agg [.agg (List.replicate 32 (.lit (.int .u8 0))), .lit (.int .i64 0), .nil], .agg [.lit (.int .i64 0), .lit (.string []), .agg [.lit (.int .i64 0), .nil]], .nil], [], places) :=
  ⟨[], by kernel_rfl⟩

set_option maxRecDepth 100000 in
theorem lifted (os : Os) (started : os.Started) (H : Type) (enc : TypeId × Value → H) (F : Stop.Interp) :
    ReturnsInHanded {} Tryz.checked os 4 .any ((OpenSpec.ofChange Rows.inventoryWithinSpec).preRow enc Tryz.prog Tryz.f4 Rows.inventoryWithinRow.domain false Rows.inventoryWithinRow.laid) (((OpenSpec.ofChange Rows.inventoryWithinSpec).at F).post enc Tryz.prog Tryz.f4 false true false false) := by
  obtain ⟨places, hx⟩ := reads os enc
  refine returnsInHanded_of_row (C := Tryz.checked) (s := OpenSpec.ofChange Rows.inventoryWithinSpec) laying.own started (by kernel_rfl) Tryz.func4
    (witness_row_at (enc := enc) (C := Tryz.checked) false (laying.laidWorld os) #[.agg (icells zero32 0 (.slice none 0 0)), .agg #[.int .i64 0, .string ⟨#[]⟩, .int .i64 0, .slice none 0 0], .slice none 0 0] rfl (by kernel_rfl) (by kernel_rfl) (by kernel_rfl)
      (OpenSpec.preRow_of_cond 8 hx (by kernel_rfl) (fun k hk => by cases hk) (by kernel_rfl) (laid_met os))) ?_
  intro W base args ds gs before hval hW _ _ _ _ hsh _
  exact contract H enc W base args ds gs before hval hW hsh

theorem said : Rows.InventoryWithinSaid :=
  OpenClaim.holds_of_cond 4 Tryz.f4 rfl rfl rfl rfl rfl rfl rfl ⟨rfl, rfl, rfl, rfl, rfl⟩ rfl rfl rfl rfl rfl (by kernel_rfl) Tryz.func4 (by kernel_rfl)
    (of_decide_eq_true (by kernel_rfl)) (by unfold Func.isWrapper; first | (rw [if_pos (by decide +kernel)]; kernel_rfl) | (rw [if_neg (by decide +kernel)]; exact ⟨rfl, rfl⟩))
    (fun os started H enc _ F => by rw [OpenClaim.pre_eq_preRow]; exact lifted os started H enc F)

theorem plain (f : FuncId) (fn : Func) (hf : Tryz.pinned.checked.prog.funcNamed "admission/admissionlaw19.InventoryWithin" = some f) (hfn : Tryz.pinned.checked.prog.funcs[f]? = some fn) :
    false = Tryz.pinned.checked.prog.looks [] ∧ ∀ (j : Nat) t, fn.params[j]? = some t → Tryz.pinned.checked.prog.wantsStandIn t = false := by
  obtain rfl : f = 4 := Option.some.inj ((show Tryz.prog.funcNamed "admission/admissionlaw19.InventoryWithin" = some 4 by kernel_rfl).symm.trans hf) |>.symm
  obtain rfl : fn = Tryz.f4 := (Option.some.inj (Tryz.func4.symm.trans hfn)).symm
  refine ⟨by kernel_rfl, fun j t ht => ?_⟩
  rw [Tryz.params4] at ht
  have hmem := Array.mem_of_getElem? ht
  have hc : t = 26 ∨ t = 41 ∨ t = 27 := by simpa using hmem
  rcases hc with rfl | rfl | rfl
  · exact (show Tryz.prog.wantsStandIn 26 = false by kernel_rfl)
  · exact (show Tryz.prog.wantsStandIn 41 = false by kernel_rfl)
  · exact (show Tryz.prog.wantsStandIn 27 = false by kernel_rfl)

theorem card : Rows.InventoryWithinCardSaid :=
  Claim7.holds_tied_plain_at .later [] _ _ _ _ said (fun _ h => by cases h) (by kernel_rfl) (fun _ h => by cases h) inventoryWithin_row_tie rfl ⟨rfl, rfl⟩ (by kernel_rfl) rfl plain (by kernel_rfl)
end Go.Proofs.YtpjjkbdkgaehkaaGreatDoor.inventoryWithin
