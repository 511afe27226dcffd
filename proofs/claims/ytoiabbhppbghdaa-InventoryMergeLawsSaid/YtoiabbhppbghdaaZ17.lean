/-
  The law InventoryMergeLaws: the statement.
-/
import Derived.Test.YtoiabbhppbghdaaII
import Derived.Test.YtoiabbhppbghdaaO1
import Derived.Test.YtoiabbhppbghdaaRows
import Derived.ProofKit
import Derived.HandedShaped
namespace Go.Proofs.Ytoiabbhppbghdaa.inventoryMergeLaws
open Go.ChangeShapes Go.WideShapes Go.ChangeAt Go.RowKit

theorem own : ownKnob Try.prog.godebug = none := by kernel_rfl
theorem laidOut : laidOutB Try.prog = true := by kernel_rfl

set_option maxHeartbeats 1600000 in
set_option maxRecDepth 100000 in
theorem lifted (os : Os) (started : os.Started) (H : Type) (enc : TypeId × Value → H) :
    ReturnsInHanded {} Try.checked os 5 .any (Rows.inventoryMergeLawsSpec.pre6 enc Try.prog Try.f5 Rows.inventoryMergeLawsRow.domain false) (Rows.inventoryMergeLawsSpec.post enc Try.prog Try.f5 false true false false) := by
  refine returnsInHanded_of_change_shaped (C := Try.checked) own started (by kernel_rfl) Try.func5
    (ChangeSpec.witness6 (enc := enc) (C := Try.checked) false ⟨#[], #[.slice none 0 0], []⟩ 8 (by kernel_rfl) (by kernel_rfl) (by kernel_rfl) (by kernel_rfl)) ?_
  intro W base args ds gs before hval0 hW _ _ hsh _
  have hmax : MaxOk W := Try.laysM145.s1_3 W hsh
  have hval : ∀ (j : Nat) t v, Try.f5.params[j]? = some t → args[j]? = some v → Value.okWide Try.prog W .any base t v := hval0
  have hW' := hW
  obtain ⟨p, q, hA0, hV, rfl, hfz, hnd⟩ := hW
  have hA : DataW.TrodAll enc Try.prog W 0 (fun _ => true) true Try.f5.params.toList args.toList ds p := hA0
  rw [Try.params5] at hA hval
  obtain ⟨v1, d1, rfl, rfl, h1⟩ := trodAll_one hA
  obtain ⟨p1, hp1⟩ : ∃ p1, p1 = p := ⟨_, rfl⟩
  subst hp1
  obtain ⟨rfl, rfl⟩ := trodVars_none hV
  have h1k := h1
  obtain ⟨a, m, cap, rfl, hnums⟩ := read_nums (hval 0 _ v1 rfl rfl) h1
  clear hA0 hval0 hA hV
  have hlt : ∀ x ∈ p1, x.block < W.heap.size := fun x hx => by simpa using hW'.lt x (by simp [hx])
  have hargs : ∀ (W' : World), Below W.heap.size W W' → DataW.TrodAll enc Try.prog W' 0 (fun b => decide (b < W.heap.size)) true Try.f5.params.toList [.slice a m cap] [d1] p1 :=
    fun W' hn => trodAll_mk1 (Below.trod laidOut (by kernel_rfl) (of_decide_eq_true (by kernel_rfl)) h1k hn hlt)
  have fin := mergeLaws_any a m cap W hmax hnums
  refine fin.mono fun e W' ⟨he, hB⟩ => ?_
  subst he
  refine ⟨_, rfl, [d1], [], p1 ++ [], [], p1, [], ?_, ?_, ?_, ?_, hB.frame _, fun h => by cases h⟩
  · simpa using hW'
  · exact trodAll_mk1 (shut_bool Try.underlying4 _)
  · exact hargs W' hB
  · exact rfl

theorem proved : Rows.InventoryMergeLawsSaid :=
  OpenClaim.holds_of_wide 5 Try.f5 rfl rfl rfl rfl rfl rfl rfl ⟨rfl, rfl, rfl, rfl, rfl⟩ rfl rfl rfl rfl rfl (by kernel_rfl) Try.func5 (by kernel_rfl)
    (of_decide_eq_true (by kernel_rfl)) (by unfold Func.isWrapper; first | (rw [if_pos (by decide +kernel)]; kernel_rfl) | (rw [if_neg (by decide +kernel)]; exact ⟨rfl, rfl⟩))
    (fun os started H enc _ => lifted os started H enc)
end Go.Proofs.Ytoiabbhppbghdaa.inventoryMergeLaws
