/-
  A world for the witnesses: the tables of the library hold what their initialisers lay.
  The law VersionSorts: the statement and its card. For every input the law returns true.
-/
import Derived.Test.YtabeblbhbekjaaaGreatDoorK
import Derived.Test.YtabeblbhbekjaaaGreatDoorCards
import Derived.Test.YtabeblbhbekjaaaGreatDoorTie
import Derived.Test.YtabeblbhbekjaaaGreatDoorI18
import Derived.ProofKit
import Derived.Deep.DeepHandedRow
import Derived.Lib.LaidTab
import Derived.HandedShaped
namespace Go.Proofs.YtabeblbhbekjaaaGreatDoor.laying
open Go.RowKit

theorem own : ownKnob Tryz.prog.godebug = none := by kernel_rfl
theorem laidOut : laidOutB Tryz.prog = true := by kernel_rfl

mutual
/-- the cells of a datum of numbers -/
def flat : DataW Unit → List Value
  | .lit (.int k n) => [.int k n]
  | .agg ps => flatAll ps
  | _ => []
def flatAll : List (DataW Unit) → List Value
  | [] => []
  | d :: r => flat d ++ flatAll r
end

def layCells (l : List Value) : Obj → Obj
  | .cells _ t frozen => .cells l.toArray t frozen
  | o => o

/-- the settled world, the two tables holding what their initialisers lay -/
noncomputable def laidWorld (os : Os) : World :=
  { World.holding Tryz.prog os ⟨#[], #[], []⟩ with
    heap := ((World.holding Tryz.prog os ⟨#[], #[], []⟩).heap.modify 2 (layCells (flat Rows.laid_unicode_utf8_acceptRanges))).modify 1 (layCells (flat Rows.laid_unicode_utf8_first)) }
end Go.Proofs.YtabeblbhbekjaaaGreatDoor.laying
namespace Go.Proofs.YtabeblbhbekjaaaGreatDoor.versionSorts
open Go.ChangeShapes Go.WideShapes Go.ChangeAt Go.RowKit
open Go.ChangeMaps (open_string shut_string)

set_option maxRecDepth 100000 in
theorem contract (H : Type) (enc : TypeId × Value → H) (W : World) (base : Nat) (args : Array Value) (ds gs : List (DataW H)) (before : List MemPlace)
    (hval : ∀ (j : Nat) t v, Tryz.f5.params[j]? = some t → args[j]? = some v → Value.okWide Tryz.prog W .any base t v)
    (hW : DataW.Whole enc Tryz.prog Tryz.f5.params.toList Rows.versionSortsSpec.vars false W args.toList ds gs before) (hsh : W.ShapedOpen Tryz.prog) :
    Calls Tryz.prog 5 args W fun e W' => ∃ v, e = .returned v ∧ Rows.versionSortsSpec.post enc Tryz.prog Tryz.f5 false true false false W args v W' := by
  have hmax : MaxOk W := Tryz.laysM145.s1_3 W hsh
  have hW' := hW
  obtain ⟨p, q, hA0, hV, rfl, hfz, hnd⟩ := hW
  have hA : DataW.TrodAll enc Tryz.prog W 0 (fun _ => true) true Tryz.f5.params.toList args.toList ds p := hA0
  rw [Tryz.params5] at hA hval
  obtain ⟨v0, v1, v2, d0, d1, d2, p0, p1, p2, rfl, rfl, rfl, h0, h1, h2⟩ := trodAll_three hA
  obtain ⟨rfl, rfl⟩ := trodVars_none hV
  have hk1 := h1
  have hk2 := h2
  obtain ⟨n0, rfl, rfl, rfl, wf0⟩ := open_int Tryz.underlying3 (hval 0 3 v0 rfl rfl) h0
  obtain ⟨L1, wf1, wl1, wx1⟩ := read_strs2 (hval 1 _ v1 rfl rfl) h1
  obtain ⟨a2, m2, c2, e2, wf2⟩ := read_nums (hval 2 _ v2 rfl rfl) h2
  subst e2
  clear hA0 hA hval
  have hlt1 : ∀ x ∈ p1, x.block < W.heap.size := fun x hx => hW'.lt x (by simp [hx])
  have hlt2 : ∀ x ∈ p2, x.block < W.heap.size := fun x hx => hW'.lt x (by simp [hx])
  refine (versionSorts_any n0 L1 v1 a2 m2 c2 W hmax wf0 wf1 wl1 wx1 wf2).mono fun e W' ⟨he, hB⟩ => ?_
  subst he
  refine ⟨_, rfl, [.lit (.int .i64 n0), d1, d2], [], [] ++ p1 ++ p2 ++ [], [], [] ++ (p1 ++ p2), [], ?_, ?_, ?_, ?_, hB.frame _, fun h => by cases h⟩
  · simpa using hW'
  · exact trodAll_mk1 (shut_bool Tryz.underlying4 _)
  · exact trodAll_mk3 (shut_int Tryz.underlying3 wf0) (Below.trod laying.laidOut (by kernel_rfl) (of_decide_eq_true (by kernel_rfl)) hk1 hB hlt1) (Below.trod laying.laidOut (by kernel_rfl) (of_decide_eq_true (by kernel_rfl)) hk2 hB hlt2)
  · exact rfl

set_option maxRecDepth 100000 in
theorem laid_met (os : Os) : laidMet Tryz.prog Rows.versionSortsRow.laid ((laying.laidWorld os).forCall (fun _ _ => 0) ⟨#[], #[.int .i64 0, .slice none 0 0, .slice none 0 0], []⟩).memory :=
  laidMet_of_run' 8 (by kernel_rfl) (by kernel_rfl)
theorem reads (os : Os) {H : Type} (enc : TypeId × Value → H) : ∃ places, DataW.whole enc Tryz.prog ((laying.laidWorld os).forCall (fun _ _ => 0) ⟨#[], #[.int .i64 0, .slice none 0 0, .slice none 0 0], []⟩).memory Tryz.f5.params.toList Rows.versionSortsSpec.vars false #[Value.int .i64 0, Value.slice none 0 0, Value.slice none 0 0].toList 8 = some ([.lit (.int .i64 0), .nil, .nil], [], places) :=
  ⟨[], by kernel_rfl⟩

set_option maxRecDepth 100000 in
theorem lifted (os : Os) (started : os.Started) (H : Type) (enc : TypeId × Value → H) (F : Stop.Interp) :
    ReturnsInHanded {} Tryz.checked os 5 .any ((OpenSpec.ofChange Rows.versionSortsSpec).preRow enc Tryz.prog Tryz.f5 Rows.versionSortsRow.domain false Rows.versionSortsRow.laid) (((OpenSpec.ofChange Rows.versionSortsSpec).at F).post enc Tryz.prog Tryz.f5 false true false false) := by
  obtain ⟨places, hx⟩ := reads os enc
  refine returnsInHanded_of_row (C := Tryz.checked) (s := OpenSpec.ofChange Rows.versionSortsSpec) laying.own started (by kernel_rfl) Tryz.func5
    (witness_row_at (enc := enc) (C := Tryz.checked) false (laying.laidWorld os) #[.int .i64 0, .slice none 0 0, .slice none 0 0] rfl (by kernel_rfl) (by kernel_rfl) (by kernel_rfl)
      (OpenSpec.preRow_of_cond 8 hx (by kernel_rfl) (fun k hk => by cases hk) (by kernel_rfl) (laid_met os))) ?_
  intro W base args ds gs before hval hW _ _ _ _ hsh _
  exact contract H enc W base args ds gs before hval hW hsh

theorem said : Rows.VersionSortsSaid :=
  OpenClaim.holds_of_cond 5 Tryz.f5 rfl rfl rfl rfl rfl rfl rfl ⟨rfl, rfl, rfl, rfl, rfl⟩ rfl rfl rfl rfl rfl (by kernel_rfl) Tryz.func5 (by kernel_rfl)
    (of_decide_eq_true (by kernel_rfl)) (by unfold Func.isWrapper; first | (rw [if_pos (by decide +kernel)]; kernel_rfl) | (rw [if_neg (by decide +kernel)]; exact ⟨rfl, rfl⟩))
    (fun os started H enc _ F => by rw [OpenClaim.pre_eq_preRow]; exact lifted os started H enc F)

theorem plain (f : FuncId) (fn : Func) (hf : Tryz.pinned.checked.prog.funcNamed "admission/admissionlaw06.VersionSorts" = some f) (hfn : Tryz.pinned.checked.prog.funcs[f]? = some fn) :
    false = Tryz.pinned.checked.prog.looks [] ∧ ∀ (j : Nat) t, fn.params[j]? = some t → Tryz.pinned.checked.prog.wantsStandIn t = false := by
  obtain rfl : f = 5 := Option.some.inj ((show Tryz.prog.funcNamed "admission/admissionlaw06.VersionSorts" = some 5 by kernel_rfl).symm.trans hf) |>.symm
  obtain rfl : fn = Tryz.f5 := (Option.some.inj (Tryz.func5.symm.trans hfn)).symm
  refine ⟨by kernel_rfl, fun j t ht => ?_⟩
  rw [Tryz.params5] at ht
  have hmem := Array.mem_of_getElem? ht
  have hc : t = 3 ∨ t = 22 ∨ t = 23 := by simpa using hmem
  rcases hc with rfl | rfl | rfl
  · exact (show Tryz.prog.wantsStandIn 3 = false by kernel_rfl)
  · exact (show Tryz.prog.wantsStandIn 22 = false by kernel_rfl)
  · exact (show Tryz.prog.wantsStandIn 23 = false by kernel_rfl)

theorem card : Rows.VersionSortsCardSaid :=
  Claim7.holds_tied_plain_at .later [] _ _ _ _ said (fun _ h => by cases h) (by kernel_rfl) (fun _ h => by cases h) versionSorts_row_tie rfl ⟨rfl, rfl⟩ (by kernel_rfl) rfl plain (by kernel_rfl)
end Go.Proofs.YtabeblbhbekjaaaGreatDoor.versionSorts
