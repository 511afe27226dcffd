/-
  The law AffectedReplaced: the statement and its card. For every input the law returns true.
-/
import Derived.Test.YtbikeahmldobkaaGreatDoorC51x51
import Derived.Test.YtbikeahmldobkaaGreatDoorC51x48
import Derived.Test.YtbikeahmldobkaaGreatDoorC51x52
import Derived.HandedShaped
set_option linter.all false
namespace Go.Proofs.YtbikeahmldobkaaGreatDoor.affectedReplaced
open Go.ChangeShapes Go.WideShapes Go.ChangeAt Go.RowKit
open Go.ChangeMaps (open_string shut_string)
set_option maxRecDepth 100000 in
theorem contract (H : Type) (enc : TypeId × Value -> H) (W : World) (base : Nat) (args : Array Value) (ds gs : List (DataW H)) (before : List MemPlace)
  (g0 : ∀ (j : Nat) t v, Tryz.f7.params[j]? = some t -> args[j]? = some v -> Value.okWide Tryz.prog W .any base t v)
  (hW : DataW.Whole enc Tryz.prog Tryz.f7.params.toList Rows.affectedReplacedSpec.vars false W args.toList ds gs before) (g5 : W.ShapedOpen Tryz.prog) :
  Calls Tryz.prog 7 args W fun e W' => ∃ v, e = .returned v /\ Rows.affectedReplacedSpec.post enc Tryz.prog Tryz.f7 false true false false W args v W' := by
 have g3 : zj W := Go.Proofs.cell_of_shapedOpen_int (zero := #[.int .i64 0]) (t := 3) g5 (of_decide_eq_true (by kernel_rfl)) (by kernel_rfl) rfl (by kernel_rfl) (by kernel_rfl) Tryz.underlying3
 have g1 := hW
 obtain ⟨p, q, g2, hV, rfl, g7, g8⟩ := hW
 have hA : DataW.TrodAll enc Tryz.prog W 0 (fun _ => true) true Tryz.f7.params.toList args.toList ds p := g2
 rw [Tryz.params7] at hA g0
 obtain ⟨v0, v1, d0, d1, p0, p1, rfl, rfl, rfl, h0, h1⟩ := trodAll_two hA
 obtain ⟨rfl, rfl⟩ := trodVars_none hV
 have g6 := h0
 obtain ⟨a0, m0, c0, e0, wf0, wg0⟩ := zi1 (g0 0 _ v0 rfl rfl) h0
 obtain ⟨n1, rfl, rfl, rfl, wf1⟩ := open_int Tryz.underlying3 (g0 1 3 v1 rfl rfl) h1
 subst e0
 clear g2 hA g0
 have g4 : ∀ x ∈ p0, x.block < W.heap.size := fun x hx => g1.lt x (by simp [hx])
 refine (zdb a0 m0 c0 n1 W g3 wf0 wg0 wf1).mono fun e W' ⟨he, hB⟩ => ?_
 subst he
 refine ⟨_, rfl, [d0, .lit (.int .i64 n1)], [], p0 ++ [] ++ [], [], p0 ++ [], [], ?_, ?_, ?_, ?_, hB.frame _, fun h => by cases h⟩
 ·simpa using g1
 ·exact trodAll_mk1 (shut_bool Tryz.underlying4 _)
 ·exact trodAll_mk2 (Below.trod laying.laidOut (by kernel_rfl) (of_decide_eq_true (by kernel_rfl)) g6 hB g4) (shut_int Tryz.underlying3 wf1)
 ·exact rfl
set_option maxRecDepth 100000 in
theorem laid_met (os : Os) : laidMet Tryz.prog Rows.affectedReplacedRow.laid ((laying.laidWorld os).forCall (fun _ _ => 0) ⟨#[], #[.slice none 0 0, .int .i64 0], []⟩).memory :=
 laidMet_of_run' 8 (by kernel_rfl) (by kernel_rfl)
theorem reads (os : Os) {H : Type} (enc : TypeId × Value -> H) : ∃ places, DataW.whole enc Tryz.prog ((laying.laidWorld os).forCall (fun _ _ => 0) ⟨#[], #[.slice none 0 0, .int .i64 0], []⟩).memory Tryz.f7.params.toList Rows.affectedReplacedSpec.vars false #[Value.slice none 0 0, Value.int .i64 0].toList 8 = some ([.nil, .lit (.int .i64 0)], [], places) :=
 ⟨[], by kernel_rfl⟩
set_option maxRecDepth 100000 in
theorem lifted (os : Os) (started : os.Started) (H : Type) (enc : TypeId × Value -> H) (F : Stop.Interp) :
  ReturnsInHanded {} Tryz.checked os 7 .any ((OpenSpec.ofChange Rows.affectedReplacedSpec).preRow enc Tryz.prog Tryz.f7 Rows.affectedReplacedRow.domain false Rows.affectedReplacedRow.laid) (((OpenSpec.ofChange Rows.affectedReplacedSpec).at F).post enc Tryz.prog Tryz.f7 false true false false) := by
 obtain ⟨places, hx⟩ := reads os enc
 refine returnsInHanded_of_row (C := Tryz.checked) (s := OpenSpec.ofChange Rows.affectedReplacedSpec) laying.own started (by kernel_rfl) Tryz.func7
  (witness_row_at (enc := enc) (C := Tryz.checked) false (laying.laidWorld os) #[.slice none 0 0, .int .i64 0] rfl (by kernel_rfl) (by kernel_rfl) (by kernel_rfl)
    (OpenSpec.preRow_of_cond 8 hx (by kernel_rfl) (fun k hk => by cases hk) (by kernel_rfl) (laid_met os))) ?_
 intro W base args ds gs before g0 hW _ _ _ _ g1 _
 exact contract H enc W base args ds gs before g0 hW g1
theorem said : Rows.AffectedReplacedSaid :=
 OpenClaim.holds_of_cond 7 Tryz.f7 rfl rfl rfl rfl rfl rfl rfl ⟨rfl, rfl, rfl, rfl, rfl⟩ rfl rfl rfl rfl rfl (by kernel_rfl) Tryz.func7 closed
  (of_decide_eq_true (by kernel_rfl)) (by unfold Func.isWrapper; first | (rw [if_pos (by decide +kernel)]; kernel_rfl) | (rw [if_neg (by decide +kernel)]; exact ⟨rfl, rfl⟩))
  (fun os started H enc _ F => by rw [OpenClaim.pre_eq_preRow]; exact lifted os started H enc F)
theorem plain (f : FuncId) (fn : Func) (hf : Tryz.pinned.checked.prog.funcNamed "admission/admissionlaw25.AffectedReplaced" = some f) (hfn : Tryz.pinned.checked.prog.funcs[f]? = some fn) :
  false = Tryz.pinned.checked.prog.looks [] /\ ∀ (j : Nat) t, fn.params[j]? = some t -> Tryz.pinned.checked.prog.wantsStandIn t = false := by
 obtain rfl : f = 7 := Option.some.inj ((show Tryz.prog.funcNamed "admission/admissionlaw25.AffectedReplaced" = some 7 by kernel_rfl).symm.trans hf) |>.symm
 obtain rfl : fn = Tryz.f7 := (Option.some.inj (Tryz.func7.symm.trans hfn)).symm
 refine ⟨by kernel_rfl, fun j t ht => ?_⟩
 rw [Tryz.params7] at ht
 have g0 := Array.mem_of_getElem? ht
 have hc : t = 22 ∨ t = 3 := by simpa using g0
 rcases hc with rfl | rfl
 ·exact (show Tryz.prog.wantsStandIn 22 = false by kernel_rfl)
 ·exact (show Tryz.prog.wantsStandIn 3 = false by kernel_rfl)
theorem card : Rows.AffectedReplacedCardSaid :=
 Claim7.holds_tied_plain_at .later [] _ _ _ _ said (fun _ h => by cases h) (by as_aux_lemma => kernel_rfl) (fun _ h => by cases h) affectedReplaced_row_tie rfl ⟨rfl, rfl⟩ (by as_aux_lemma => kernel_rfl) rfl plain (by as_aux_lemma => kernel_rfl)
end Go.Proofs.YtbikeahmldobkaaGreatDoor.affectedReplaced
