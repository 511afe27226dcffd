/-
  Walks: names of schemes; package URLs made.
-/
import Derived.Test.YtoiabbhppbghdaaJC
import Derived.Test.YtoiabbhppbghdaaJ3
import Derived.StillTailTactics
namespace Go.Proofs.Ytoiabbhppbghdaa
open Go.RowKit

set_option maxRecDepth 100000 in
set_option maxHeartbeats 400000 in
theorem schName_any (n : Int) (w : World) :
    Calls Try.prog 45 #[.int .i64 n] w fun e w' => e = .returned (.string ⟨(V.schName n).toArray⟩) ∧ w' = w := by
  by_cases h1 : n = 1
  · subst h1
    go_enter Try.func45, Try.ntmps45
    go_wp2
    go_ret
    exact ⟨rfl, rfl⟩
  · by_cases h2 : n = 2
    · subst h2
      go_enter Try.func45, Try.ntmps45
      go_wp2
      go_ret
      exact ⟨rfl, rfl⟩
    · by_cases h3 : n = 3
      · subst h3
        go_enter Try.func45, Try.ntmps45
        go_wp2
        go_ret
        exact ⟨rfl, rfl⟩
      · have HN : Hid (V.schName n = []) := Lib.hid (by unfold V.schName; rw [if_neg h1, if_neg h2, if_neg h3])
        go_enter Try.func45, Try.ntmps45
        go_wp2
        go_ret
        exact ⟨by rw [HN.out]; rfl, rfl⟩

theorem ret_two {a b : ByteArray} {x y : Int} (h : a = b) (g : x = y) : Ending.returned (.tuple #[.string a, .int .i64 x]) = .returned (.tuple #[.string b, .int .i64 y]) := by rw [h, g]

set_option maxRecDepth 100000 in
set_option maxHeartbeats 1600000 in
theorem purl_any (c : V.Comp) (w : World) (hm : MaxOk w) (hc : CompWf c) :
    Calls Try.prog 34 #[cval c] w fun e w' => e = .returned (.tuple #[.string ⟨(V.purlR c).1.toArray⟩, .int .i64 (V.purlR c).2]) ∧ Below w.heap.size w w' := by
  have HM := Lib.hid hm
  have HC := Lib.hid hc
  have hcs := hc.size
  have h1 := ccells_1 c
  have h2 := ccells_2 c
  have h3 := ccells_3 c
  clear hm hc
  unfold cval
  go_enter Try.func34, Try.ntmps34
  go_wp2_with (first | (refine wl_load rfl _ rfl w.heap.size 0 rfl c HC.out (range_new c w _) ?_) | fail)
  refine (component_any c _ (HM.out.below ((Below.refl _ w).alloc (Nat.le_refl _) _)) HC.out).mono ?_
  rintro e w1 ⟨rfl, hb1⟩
  have hb0 := (Below.refl w.heap.size w).alloc (Nat.le_refl _) (.cells (ccells c) 47)
  have HB1 := Lib.hid (hb0.trans (hb1.mono hb0.size))
  have hc1 : w1.cell? ⟨w.heap.size, 1, none⟩ = some (.int .i64 c.sch) := by rw [hb1.cell (p := ⟨w.heap.size, 1, none⟩) (by simp), World.cell?_alloc_new]; exact h1
  have hc2 : w1.cell? ⟨w.heap.size, 2, none⟩ = some (.string ⟨c.name.toArray⟩) := by rw [hb1.cell (p := ⟨w.heap.size, 2, none⟩) (by simp), World.cell?_alloc_new]; exact h2
  have hc3 : w1.cell? ⟨w.heap.size, 3, none⟩ = some (.string ⟨c.ver.toArray⟩) := by rw [hb1.cell (p := ⟨w.heap.size, 3, none⟩) (by simp), World.cell?_alloc_new]; exact h3
  clear hb0 hb1 h1 h2 h3 hcs
  rcases hk : V.compOk c with _ | _
  · have HR : Hid (V.purlR c = ([], 1)) := Lib.hid (by unfold V.purlR; rw [hk]; rfl)
    clear hk
    go_wp2
    go_ret2
    exact ⟨by rw [HR.out]; rfl, HB1.out⟩
  · have HR : Hid (V.purlR c = (V.purl c, 0)) := Lib.hid (by unfold V.purlR; rw [hk]; rfl)
    obtain ⟨ln, lv⟩ := V.compOk_len hk
    have ls := V.schName_len c.sch
    have HSN := fun w => schName_any c.sch w
    have HP : Hid (V.purl c = V.pkg ++ V.schName c.sch ++ [47] ++ c.name ++ [64] ++ c.ver) := rfl
    clear hk
    generalize V.schName c.sch = sn at *
    generalize c.name = nm at *
    generalize c.ver = vr at *
    have s1 : ¬ (9223372036854775807 < 4 + sn.length) := by omega
    have s2 : ¬ (9223372036854775807 < 4 + sn.length + 1) := by omega
    have s3 : ¬ (9223372036854775807 < 4 + sn.length + 1 + nm.length) := by omega
    have s4 : ¬ (9223372036854775807 < 4 + sn.length + 1 + nm.length + 1) := by omega
    have s5 : ¬ (9223372036854775807 < 4 + sn.length + 1 + nm.length + 1 + vr.length) := by omega
    have SN := Lib.hid HSN
    clear HSN
    go_wp2
    go_quiet ((go_at_call 45; exact Calls.quiet_of_same (SN.out _)))
    rename_i nq
    go_wp2
    go_ret2
    exact ⟨ret_two (bs_ext (by rw [HR.out]; simp only [HP.out]; rw [bs_mk]; simp [V.pkg])) (by rw [HR.out]), HB1.out.trans (below_drewN (Below.refl _ _) nq |>.mono HB1.out.size)⟩

end Go.Proofs.Ytoiabbhppbghdaa
