/-
  Walks: an inventory of no components is valid; the check of the laws on inventories.
-/
import Derived.Test.YtoiabbhppbghdaaJD
import Derived.Test.YtoiabbhppbghdaaJK
import Derived.Maps.Own
namespace Go.Proofs.Ytoiabbhppbghdaa
open Go.RowKit

/-- the cells of an inventory -/
def icells (d : List Int) (time : Int) (v : Value) : Array Value := (dcellsL d ++ [.int .i64 time, v]).toArray
theorem icells_range (w : World) (t : TypeId) {d : List Int} (time : Int) (v : Value) (hd : d.length = 32) : (w.alloc (.cells (icells d time v) t)).rangeAt w.heap.size 0 (dcellsL d) := fun j u hj => by
  rw [Nat.zero_add, World.cell?_alloc_new]
  unfold icells
  have : j < (dcellsL d).length := (List.getElem?_eq_some_iff.1 hj).1
  rw [List.getElem?_toArray, List.getElem?_append_left this]
  exact hj

set_option maxRecDepth 100000 in
set_option maxHeartbeats 1600000 in
theorem validEmpty_any (w : World) :
    Calls Try.prog 31 #[.agg (icells (dig1 1) 0 (.slice none 0 0))] w fun e w' => e = .returned (.bool true) ∧ Below w.heap.size w w' := by
  have hd : (dig1 1).length = 32 := rfl
  have h32 : (icells (dig1 1) 0 (.slice none 0 0))[32]? = some (.int .i64 0) := rfl
  have h33 : (icells (dig1 1) 0 (.slice none 0 0))[33]? = some (.slice none 0 0) := rfl
  have HR := Lib.hid (icells_range w 41 0 (.slice none 0 0) hd)
  have HI : Hid ((Try.prog.info? 24).map (·.size) = some (dcellsL (dig1 1)).length) := Lib.hid digInfo
  have HQ : Hid (∀ w, (Op.equalIn 10000 24 (.agg (dcells (dig1 1))) (.agg (dcells zero32))).run Try.prog w = .ok false w) := Lib.hid (fun w => by
    rw [eq_dig rfl (by decide) rfl (by decide) w]; rfl)
  have hmm := @run_makeMap Try.prog
  clear hd
  generalize hic : icells (dig1 1) 0 (.slice none 0 0) = ic at *
  clear hic
  go_enter Try.func31, Try.ntmps31
  go_wp2_with (first | (refine wpList_load_mid rfl 24 _ rfl w.heap.size 0 rfl (dcellsL (dig1 1)) _ HR.out Try.underlying24 rfl HI.out ?_) | (refine wl_eql rfl 24 24 _ _ rfl (dcells (dig1 1)) (dcells zero32) rfl rfl guard_dig false (HQ.out _) ?_) | fail)
  go_loop [30] (fun k => k = .int .i64 ((0 : Nat) : Int)) (fun _ => 0)
  case atStart => exact rfl
  case round =>
    subst hrel
    have hno : ¬ ((0 : Nat) : Int) < ((0 : Nat) : Int) := by omega
    go_wp2
    go_ret
    exact ⟨ret_bool rfl, ((Below.refl _ w).alloc (Nat.le_refl _) _).alloc (by simp) _⟩

def awakeC : V.Comp := ⟨-1, 1, [122, 108, 105, 98], [49, 46, 50, 46, 51], zero32⟩
def awakeP : V.Bs := [112, 107, 103, 58, 115, 101, 109, 118, 101, 114, 47, 122, 108, 105, 98, 64, 49, 46, 50, 46, 51]
theorem awakeC_wf : CompWf awakeC := ⟨by decide, by decide, by decide, by decide, by decide, by decide⟩
theorem awakeC_purl : V.purlR awakeC = (awakeP, 0) := by decide +kernel

set_option maxRecDepth 100000 in
set_option maxHeartbeats 1600000 in
theorem awake19_any (w : World) (hm : MaxOk w) :
    Calls Try.prog 16 #[] w fun e w' => e = .returned (.bool true) ∧ Below w.heap.size w w' := by
  have HM := Lib.hid hm
  clear hm
  go_enter Try.func16, Try.ntmps16
  go_wp2_with fail
  refine (purl_any awakeC _ HM.out awakeC_wf).mono ?_
  rintro e w1 ⟨rfl, hb1⟩
  have HB1 := Lib.hid hb1
  clear hb1
  rw [awakeC_purl]
  go_wp2_with fail
  refine (validEmpty_any _).mono ?_
  rintro e w2 ⟨rfl, hb2⟩
  have HB2 := Lib.hid (HB1.out.trans (hb2.mono HB1.out.size))
  clear hb2
  go_wp2
  go_ret
  exact ⟨ret_bool rfl, HB2.out⟩
end Go.Proofs.Ytoiabbhppbghdaa
