/-
  The law AffectedUpgrade: the statement and its card. For every input the law returns true.
-/
import Derived.Test.YtbikeahmldobkaaGreatDoorC50x43
import Derived.Test.YtbikeahmldobkaaGreatDoorC50x44
import Derived.HandedShaped
set_option linter.all false
namespace Go.Proofs.YtbikeahmldobkaaGreatDoor.affectedUpgrade
open Go.ChangeShapes Go.WideShapes Go.ChangeAt Go.RowKit
open Go.ChangeMaps (open_string shut_string)
set_option maxRecDepth 100000 in
theorem contract (H : Type) (enc : TypeId × Value -> H) (W : World) (base : Nat) (args : Array Value) (ds gs : List (DataW H)) (before : List MemPlace)
  (g0 : ∀ (j : Nat) t v, Tryz.f5.params[j]? = some t -> args[j]? = some v -> Value.okWide Tryz.prog W .any base t v)
  (hW : DataW.Whole enc Tryz.prog Tryz.f5.params.toList Rows.affectedUpgradeSpec.vars false W args.toList ds gs before) (g6 : W.ShapedOpen Tryz.prog) :
  Calls Tryz.prog 5 args W fun e W' => ∃ v, e = .returned v /\ Rows.affectedUpgradeSpec.post enc Tryz.prog Tryz.f5 false true false false W args v W' := by
 have g3 : zj W := Go.Proofs.cell_of_shapedOpen_int (zero := #[.int .i64 0]) (t := 3) g6 (of_decide_eq_true (by kernel_rfl)) (by kernel_rfl) rfl (by kernel_rfl) (by kernel_rfl) Tryz.underlying3
 have g1 := hW
 obtain ⟨p, q, g2, hV, rfl, g9, h5⟩ := hW
 have hA : DataW.TrodAll enc Tryz.prog W 0 (fun _ => true) true Tryz.f5.params.toList args.toList ds p := g2
 rw [Tryz.params5] at hA g0
 obtain ⟨v0, v1, v2, v3, v4, d0, d1, d2, d3, d4, p0, p1, p2, p3, p4, rfl, rfl, rfl, h0, h1, h2, h3, h4⟩ := zob hA
 obtain ⟨rfl, rfl⟩ := trodVars_none hV
 have g7 := h0
 have g8 := h3
 obtain ⟨a0, m0, c0, e0, wf0, wg0⟩ := zbi (g0 0 _ v0 rfl rfl) h0
 obtain ⟨n1, rfl, rfl, rfl, wf1⟩ := open_int Tryz.underlying3 (g0 1 3 v1 rfl rfl) h1
 obtain ⟨s2, rfl, rfl, rfl, wf2⟩ := open_string Tryz.underlying9 (g0 2 9 v2 rfl rfl) h2
 obtain ⟨L3, wf3, wl3, wx3⟩ := zwa (g0 3 _ v3 rfl rfl) h3
 obtain ⟨n4, rfl, rfl, rfl⟩ := open_bool Tryz.underlying4 (g0 4 4 v4 rfl rfl) h4
 subst e0
 clear g2 hA g0
 have g4 : ∀ x ∈ p0, x.block < W.heap.size := fun x hx => g1.lt x (by simp [hx])
 have g5 : ∀ x ∈ p3, x.block < W.heap.size := fun x hx => g1.lt x (by simp [hx])
 refine (zey a0 m0 c0 n1 s2 L3 v3 n4 W g3 wf0 wg0 wf1 wf2 wf3 wl3 wx3).mono fun e W' ⟨he, hB⟩ => ?_
 subst he
 refine ⟨_, rfl, [d0, .lit (.int .i64 n1), .lit (.string s2.data.toList), d3, .lit (.bool n4)], [], p0 ++ [] ++ [] ++ p3 ++ [] ++ [], [], p0 ++ ([] ++ ([] ++ (p3 ++ []))), [], ?_, ?_, ?_, ?_, hB.frame _, fun h => by cases h⟩
 ·simpa using g1
 ·exact trodAll_mk1 (shut_bool Tryz.underlying4 _)
 ·exact zrd (Below.trod laying.laidOut (by kernel_rfl) (of_decide_eq_true (by kernel_rfl)) g7 hB g4) (shut_int Tryz.underlying3 wf1) (shut_string Tryz.underlying9 wf2) (Below.trod laying.laidOut (by kernel_rfl) (of_decide_eq_true (by kernel_rfl)) g8 hB g5) (shut_bool Tryz.underlying4 n4)
 ·exact rfl
set_option maxRecDepth 100000 in
theorem laid_met (os : Os) : laidMet Tryz.prog Rows.affectedUpgradeRow.laid ((laying.laidWorld os).forCall (fun _ _ => 0) ⟨#[], #[.slice none 0 0, .int .i64 0, .string ⟨#[]⟩, .slice none 0 0, .bool false], []⟩).memory :=
 laidMet_of_run' 8 (by kernel_rfl) (by kernel_rfl)
theorem reads (os : Os) {H : Type} (enc : TypeId × Value -> H) : ∃ places, DataW.whole enc Tryz.prog ((laying.laidWorld os).forCall (fun _ _ => 0) ⟨#[], #[.slice none 0 0, .int .i64 0, .string ⟨#[]⟩, .slice none 0 0, .bool false], []⟩).memory Tryz.f5.params.toList Rows.affectedUpgradeSpec.vars false #[Value.slice none 0 0, Value.int .i64 0, Value.string ⟨#[]⟩, Value.slice none 0 0, Value.bool false].toList 8 = some ([.nil, .lit (.int .i64 0), .lit (.string []), .nil, .lit (.bool false)], [], places) :=
 ⟨[], by kernel_rfl⟩
set_option maxRecDepth 100000 in
theorem lifted (os : Os) (started : os.Started) (H : Type) (enc : TypeId × Value -> H) (F : Stop.Interp) :
  ReturnsInHanded {} Tryz.checked os 5 .any ((OpenSpec.ofChange Rows.affectedUpgradeSpec).preRow enc Tryz.prog Tryz.f5 Rows.affectedUpgradeRow.domain false Rows.affectedUpgradeRow.laid) (((OpenSpec.ofChange Rows.affectedUpgradeSpec).at F).post enc Tryz.prog Tryz.f5 false true false false) := by
 obtain ⟨places, hx⟩ := reads os enc
 refine returnsInHanded_of_row (C := Tryz.checked) (s := OpenSpec.ofChange Rows.affectedUpgradeSpec) laying.own started (by kernel_rfl) Tryz.func5
  (witness_row_at (enc := enc) (C := Tryz.checked) false (laying.laidWorld os) #[.slice none 0 0, .int .i64 0, .string ⟨#[]⟩, .slice none 0 0, .bool false] rfl (by kernel_rfl) (by kernel_rfl) (by kernel_rfl)
    (OpenSpec.preRow_of_cond 8 hx (by kernel_rfl) (fun k hk => by cases hk) (by kernel_rfl) (laid_met os))) ?_
 intro W base args ds gs before g0 hW _ _ _ _ g1 _
 exact contract H enc W base args ds gs before g0 hW g1
theorem said : Rows.AffectedUpgradeSaid :=
 OpenClaim.holds_of_cond 5 Tryz.f5 rfl rfl rfl rfl rfl rfl rfl ⟨rfl, rfl, rfl, rfl, rfl⟩ rfl rfl rfl rfl rfl (by kernel_rfl) Tryz.func5 closed
  (of_decide_eq_true (by kernel_rfl)) (by unfold Func.isWrapper; first | (rw [if_pos (by decide +kernel)]; kernel_rfl) | (rw [if_neg (by decide +kernel)]; exact ⟨rfl, rfl⟩))
  (fun os started H enc _ F => by rw [OpenClaim.pre_eq_preRow]; exact lifted os started H enc F)
theorem plain (f : FuncId) (fn : Func) (hf : Tryz.pinned.checked.prog.funcNamed "admission/admissionlaw25.AffectedUpgrade" = some f) (hfn : Tryz.pinned.checked.prog.funcs[f]? = some fn) :
  false = Tryz.pinned.checked.prog.looks [] /\ ∀ (j : Nat) t, fn.params[j]? = some t -> Tryz.pinned.checked.prog.wantsStandIn t = false := by
 obtain rfl : f = 5 := Option.some.inj ((show Tryz.prog.funcNamed "admission/admissionlaw25.AffectedUpgrade" = some 5 by kernel_rfl).symm.trans hf) |>.symm
 obtain rfl : fn = Tryz.f5 := (Option.some.inj (Tryz.func5.symm.trans hfn)).symm
 refine ⟨by kernel_rfl, fun j t ht => ?_⟩
 rw [Tryz.params5] at ht
 have g0 := Array.mem_of_getElem? ht
 have hc : t = 22 ∨ t = 3 ∨ t = 9 ∨ t = 42 ∨ t = 4 := by simpa using g0
 rcases hc with rfl | rfl | rfl | rfl | rfl
 ·exact (show Tryz.prog.wantsStandIn 22 = false by kernel_rfl)
 ·exact (show Tryz.prog.wantsStandIn 3 = false by kernel_rfl)
 ·exact (show Tryz.prog.wantsStandIn 9 = false by kernel_rfl)
 ·exact (show Tryz.prog.wantsStandIn 42 = false by kernel_rfl)
 ·exact (show Tryz.prog.wantsStandIn 4 = false by kernel_rfl)
theorem card : Rows.AffectedUpgradeCardSaid :=
 Claim7.holds_tied_plain_at .later [] _ _ _ _ said (fun _ h => by cases h) (by as_aux_lemma => kernel_rfl) (fun _ h => by cases h) affectedUpgrade_row_tie rfl ⟨rfl, rfl⟩ (by as_aux_lemma => kernel_rfl) rfl plain (by as_aux_lemma => kernel_rfl)
end Go.Proofs.YtbikeahmldobkaaGreatDoor.affectedUpgrade
