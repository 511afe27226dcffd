/-
  Walk: the reference's component.
-/
import Derived.Test.YtpjjkbdkgaehkaaGreatDoorJD
import Derived.Test.YtpjjkbdkgaehkaaGreatDoorQ2
import Derived.Test.YtpjjkbdkgaehkaaGreatDoorR6
namespace Go.Proofs.YtpjjkbdkgaehkaaGreatDoor
open Go.RowKit

set_option maxRecDepth 100000 in
set_option maxHeartbeats 800000 in
theorem rcomponent_any (c : V.Comp) (w : World) (hm : MaxOk w) (hc : CompWf c) :
    Calls Tryz.prog 36 #[cval c] w fun e w' => e = .returned (.bool (V.compOk c)) ∧ Below w.heap.size w w' := by
  have HM := Lib.hid hm
  have HC := Lib.hid hc
  have h1 := ccells_1 c
  have h2 := ccells_2 c
  have h3 := ccells_3 c
  have HD : Hid (V.compOk c = (V.valid c.sch c.ver && V.pathOk c.name)) := Lib.hid (Bool.and_comm _ _)
  have hn := Lib.hid hc.name
  have hv := Lib.hid hc.ver
  clear hm hc
  unfold cval
  generalize ccells c = cs at *
  generalize V.compOk c = r at *
  obtain ⟨par, sch, name, ver, dig⟩ := c
  simp only at *
  go_enter Tryz.func36, Tryz.ntmps36
  go_wp2_with fail
  refine (rvalid_any _ _ _ (HM.out.below ((Below.refl _ w).alloc (Nat.le_refl _) _)) (by show ver.toArray.size ≤ _; simpa using hv.out)).mono ?_
  rintro e w1 ⟨rfl, hb1⟩
  have hb0 := (Below.refl w.heap.size w).alloc (Nat.le_refl _) (.cells cs 66)
  have HB1 := Lib.hid (hb0.trans (hb1.mono hb0.size))
  have hc2 : w1.cell? ⟨w.heap.size, 2, none⟩ = some (.string ⟨name.toArray⟩) := by rw [hb1.cell (p := ⟨w.heap.size, 2, none⟩) (by simp), World.cell?_alloc_new]; exact h2
  clear hb0 hb1 h1 h2 h3
  rw [bs_mk]
  rcases hp : V.valid sch ver with _ | _
  · rw [hp] at HD
    clear hp
    go_wp2
    go_ret
    exact ⟨ret_bool HD.out.symm, HB1.out⟩
  · rw [hp] at HD
    clear hp
    go_wp2_with fail
    refine (rpath_any _ _ (HM.out.below HB1.out) (by show name.toArray.size ≤ _; simpa using hn.out)).mono ?_
    rintro e w2 ⟨rfl, hb2⟩
    have HB2 := Lib.hid (HB1.out.trans (hb2.mono HB1.out.size))
    clear hb2
    go_wp2
    go_ret
    exact ⟨ret_bool (by rw [HD.out]; rfl), HB2.out⟩
end Go.Proofs.YtpjjkbdkgaehkaaGreatDoor
