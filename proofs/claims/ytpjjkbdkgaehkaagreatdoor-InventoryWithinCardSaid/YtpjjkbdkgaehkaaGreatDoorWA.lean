/-
  Walks: inventory.Within and the reference's. (Printed by gen_WA.py.)
-/
import Derived.Test.YtpjjkbdkgaehkaaGreatDoorZB
import Derived.Test.YtpjjkbdkgaehkaaGreatDoorMU
namespace Go.Proofs.YtpjjkbdkgaehkaaGreatDoor
open Go.RowKit

namespace V
/-- the places up to k of the components of which p is true -/
def pickTo (p : Comp → Bool) (l : List Comp) (k : Nat) : List Nat := (List.range k).filter fun i => match l[i]? with | some c => p c | none => false
theorem pickTo_step {p : Comp → Bool} {l : List Comp} {k : Nat} (h : k < l.length) : pickTo p l (k + 1) = if p l[k] = true then pickTo p l k ++ [k] else pickTo p l k := by
  unfold pickTo
  rw [List.range_succ, List.filter_append]
  simp only [List.filter_cons, List.filter_nil, List.getElem?_eq_getElem h]
  split <;> simp
theorem pickTo_len (p : Comp → Bool) (l : List Comp) (k : Nat) : (pickTo p l k).length ≤ k := by
  have := List.length_filter_le (fun i => match l[i]? with | some c => p c | none => false) (List.range k)
  simpa [pickTo] using this
/-- a component of the scheme n and the name nm whose version is in a set -/
def wIn (n : Int) (nm : Bs) (nr : Int) (lr : List Itv) (c : Comp) : Bool := (nr == n) && ((c.sch == n) && ((c.name == nm) && containsL nr lr c.ver))
end V
def WithPost (p : V.Comp → Bool) (l : List V.Comp) (w : World) (e : Ending) (w' : World) : Prop :=
  ∃ u, e = .returned u ∧ IRow w' w.heap.size u (V.pickTo p l l.length) ∧ Below w.heap.size w w'
theorem ba_eq (a b : V.Bs) : ((ByteArray.mk a.toArray).toList == (ByteArray.mk b.toArray).toList) = (a == b) := by
  rw [ByteArray.toList_eq, ByteArray.toList_eq]

set_option maxRecDepth 100000 in
set_option maxHeartbeats 6400000 in
theorem within_any (d : List Int) (time : Int) (v : Value) (l : List V.Comp) (n : Int) (nm : V.Bs) (nr : Int) (vr : Value) (lr : List V.Itv) (w : World) (hm : MaxOk w) (hd : d.length = 32) (hv : Comps w v l) (hl : l.length ≤ 100000) (hr : Itvs w vr lr) (hs : Lens lr) (hlr : lr.length ≤ maxLen) :
    Calls Tryz.prog 18 #[.agg (icells d time v), .int .i64 n, .string ⟨nm.toArray⟩, setV nr vr] w (WithPost (V.wIn n nm nr lr) l w) := by
  have HL := Lib.hid hv
  have HR := Lib.hid hr
  have HS := Lib.hid hs
  have HLR := Lib.hid hlr
  have HM := Lib.hid hm
  have h33 := icells_33 hd time v
  obtain ⟨va, vc, rfl, hjunk⟩ := hv
  obtain ⟨ra, rc, rfl⟩ := hr.slice
  obtain ⟨W0, hW0⟩ : ∃ W0, W0 = (w.alloc (.cells (icells d time (.slice va l.length vc)) 26)).alloc (.cells #[.int .i64 nr, .slice ra lr.length rc] 39) := ⟨_, rfl⟩
  have hb0 : Below w.heap.size w W0 := by rw [hW0]; exact ((Below.refl _ w).alloc (Nat.le_refl _) _).alloc (by simp) _
  have hx33 : W0.cell? ⟨w.heap.size, 33, none⟩ = some (.slice va l.length vc) := by rw [hW0, cell_alloc, if_neg (by simp), World.cell?_alloc_new]; exact h33
  have hq0 : W0.cell? ⟨w.heap.size + 1, 0, none⟩ = some (.int .i64 nr) := by rw [hW0, cell_alloc, if_pos (by simp)]; rfl
  have hq1 : W0.cell? ⟨w.heap.size + 1, 1, none⟩ = some (.slice ra lr.length rc) := by rw [hW0, cell_alloc, if_pos (by simp)]; rfl
  have hz0 : W0.heap.size = w.heap.size + 2 := by rw [hW0]; simp
  have HB0 := Lib.hid hb0
  have HC := Lib.hid (And.intro hx33 (And.intro hq0 hq1))
  have HZ0 := Lib.hid hz0
  have HW0 := Lib.hid hW0
  have HPF : Hid (∀ c : V.Comp, V.wIn n nm nr lr c = ((nr == n) && ((c.sch == n) && ((c.name == nm) && V.containsL nr lr c.ver)))) := Lib.hid (fun c => rfl)
  obtain ⟨P, hP⟩ : ∃ P, P = V.wIn n nm nr lr := ⟨_, rfl⟩
  rw [← hP] at HPF ⊢
  obtain ⟨NB, hNB⟩ : ∃ NB, NB = ByteArray.mk nm.toArray := ⟨_, rfl⟩
  have HNB := Lib.hid hNB
  rw [← hNB]
  clear hd hjunk h33 hm hr hs hlr hb0 hx33 hq0 hq1 hz0 hW0 hP hNB
  unfold setV
  generalize icells d time (.slice va l.length vc) = ic at *
  go_enter Tryz.func18, Tryz.ntmps18
  obtain ⟨y0, y1, y2⟩ := HC.out
  rw [HW0.out] at y0 y1 y2
  go_wp2_with fail
  rw [← HW0.out]
  clear y0 y1 y2
  go_loopw [9, 15] (fun ov iv wr => ∃ k : Nat, k ≤ l.length ∧ iv = .int .i64 k ∧ IRow wr W0.heap.size ov (V.pickTo P l k) ∧ Below W0.heap.size W0 wr) (fun _ iv _ => l.length - (intOf iv).toNat)
  case atStart => exact ⟨0, Nat.zero_le _, rfl, IRow.nil _ _, Below.refl _ _⟩
  case round =>
    obtain ⟨k, hk, rfl, hir, hbr⟩ := hrel
    have HIR := Lib.hid hir
    have HBR := Lib.hid hbr
    have hblk := hir.block
    have HBLK := Lib.hid hblk
    obtain ⟨oa, oc, hov⟩ := hir.slice
    subst hov
    have hkl := V.pickTo_len P l k
    have y0 := below_keep hbr HC.out.1
    have y1 := below_keep hbr HC.out.2.1
    have y2 := below_keep hbr HC.out.2.2
    have HBW := Lib.hid (HB0.out.trans (hbr.mono HB0.out.size))
    clear hir hbr hblk
    by_cases hlt : k < l.length
    · obtain ⟨hxw, b, off, rfl, hblt, hxr⟩ := HL.out.at k hlt
      have HST := Lib.hid (V.pickTo_step (p := P) hlt)
      have HX := Lib.hid hxw
      have HXR := Lib.hid (rangeAt_below hxr HBW.out)
      have hi1 : (0 : Int) ≤ (k : Int) := by omega
      have hi2 : (k : Int) < (l.length : Int) := by omega
      have HPX := Lib.hid (HPF.out l[k])
      clear hxw hxr
      generalize l[k] = x at *
      have hb1 : Below W0.heap.size W0 (wr.alloc (.cells (ccells x) 66)) := HBR.out.alloc HBR.out.size _
      have hbx : Below wr.heap.size wr (wr.alloc (.cells (ccells x) 66)) := (Below.refl _ _).alloc (Nat.le_refl _) _
      have hir1 : IRow (wr.alloc (.cells (ccells x) 66)) W0.heap.size (.slice oa (V.pickTo P l k).length oc) (V.pickTo P l k) := HIR.out.kept (row := none) (World.grownBy_alloc wr _ none) (by intro b' e; cases e)
      have k1 : (wr.alloc (.cells (ccells x) 66)).cell? ⟨wr.heap.size, 1, none⟩ = some (.int .i64 x.sch) := by rw [World.cell?_alloc_new]; rfl
      have k3 : (wr.alloc (.cells (ccells x) 66)).cell? ⟨wr.heap.size, 3, none⟩ = some (.string ⟨x.ver.toArray⟩) := by rw [World.cell?_alloc_new]; rfl
      obtain ⟨NA, hNA⟩ : ∃ NA, NA = ByteArray.mk x.name.toArray := ⟨_, rfl⟩
      have k2 : (wr.alloc (.cells (ccells x) 66)).cell? ⟨wr.heap.size, 2, none⟩ = some (.string NA) := by rw [World.cell?_alloc_new, hNA]; rfl
      have HEQ : Hid ((NA.toList == NB.toList) = (x.name == nm)) := Lib.hid (by rw [hNA, HNB.out, ba_eq])
      have z0 := below_keep hbx y0
      have z1 := below_keep hbx y1
      have z2 := below_keep hbx y2
      have HVL : Hid (x.ver.length ≤ maxLen) := Lib.hid HX.out.ver
      have HB1 := Lib.hid hb1
      have HI1 := Lib.hid hir1
      have HMX := Lib.hid (HM.out.below (HB0.out.trans (hb1.mono HB0.out.size)))
      have HRX := Lib.hid (HR.out.below (HB0.out.trans (hb1.mono HB0.out.size)))
      clear hb1 hbx hir1 hNA
      have NOT : Hid (P x = false → V.pickTo P l (k + 1) = V.pickTo P l k) := Lib.hid (fun h => by rw [HST.out, h]; rfl)
      have YES : Hid (P x = true → V.pickTo P l (k + 1) = V.pickTo P l k ++ [k]) := Lib.hid (fun h => by rw [HST.out, h]; rfl)
      clear HST
      rcases h1 : (nr == n) with _ | _
      · have HK := Lib.hid (NOT.out (by rw [HPX.out, h1]; rfl))
        go_wp2_with (first | (refine wl_load rfl _ rfl b (off + k * 36) rfl x HX.out HXR.out ?_) | (refine wl_store rfl _ _ rfl _ _ rfl x HX.out rfl rfl ?_) | fail)
        go_roundw
        case rel => exact ⟨k + 1, by omega, by go_num, by rw [HK.out]; exact HI1.out, HB1.out⟩
        case measure => simp [intOf]; omega
      · rcases h2 : (x.sch == n) with _ | _
        · have HK := Lib.hid (NOT.out (by rw [HPX.out, h1, h2]; rfl))
          go_wp2_with (first | (refine wl_load rfl _ rfl b (off + k * 36) rfl x HX.out HXR.out ?_) | (refine wl_store rfl _ _ rfl _ _ rfl x HX.out rfl rfl ?_) | fail)
          go_roundw
          case rel => exact ⟨k + 1, by omega, by go_num, by rw [HK.out]; exact HI1.out, HB1.out⟩
          case measure => simp [intOf]; omega
        · rcases h3 : (NA.toList == NB.toList) with _ | _
          · have HK := Lib.hid (NOT.out (by rw [HPX.out, h1, h2, ← HEQ.out, h3]; rfl))
            go_wp2_with (first | (refine wl_load rfl _ rfl b (off + k * 36) rfl x HX.out HXR.out ?_) | (refine wl_store rfl _ _ rfl _ _ rfl x HX.out rfl rfl ?_) | fail)
            go_roundw
            case rel => exact ⟨k + 1, by omega, by go_num, by rw [HK.out]; exact HI1.out, HB1.out⟩
            case measure => simp [intOf]; omega
          · have HPY : Hid (P x = V.containsL nr lr x.ver) := Lib.hid (by rw [HPX.out, h1, h2, ← HEQ.out, h3]; rfl)
            go_wp2_with (first | (refine wl_load rfl _ rfl b (off + k * 36) rfl x HX.out HXR.out ?_) | (refine wl_store rfl _ _ rfl _ _ rfl x HX.out rfl rfl ?_) | fail)
            clear k1 k2 k3 y0 y1 y2 z0 z1 z2
            generalize (wr.alloc (.cells (ccells x) 66)) = W1 at *
            refine (rgContains_any nr (.slice ra lr.length rc) lr x.ver W1 HMX.out HRX.out HS.out HLR.out HVL.out).mono ?_
            rintro e w2 ⟨rfl, hb2⟩
            rw [← HPY.out]
            have HB2 := Lib.hid (HB1.out.trans (hb2.mono HB1.out.size))
            have HI2 : Hid (IRow w2 W0.heap.size (.slice oa (V.pickTo P l k).length oc) (V.pickTo P l k)) := Lib.hid (HI1.out.kept (row := none) (below_grown hb2 none) (by intro b' e; cases e))
            clear hb2
            rcases hp : P x with _ | _
            · have HK := Lib.hid (NOT.out hp)
              clear hp
              go_wp2_with fail
              go_roundw
              case rel => exact ⟨k + 1, by omega, by go_num, by rw [HK.out]; exact HI2.out, HB2.out⟩
              case measure => simp [intOf]; omega
            · have HK := Lib.hid (YES.out hp)
              have HI3 : Hid (IRow (w2.alloc (.cells #[.int .i64 (k : Int)] 3)) W0.heap.size (.slice oa (V.pickTo P l k).length oc) (V.pickTo P l k)) := Lib.hid (HI2.out.kept (row := none) (World.grownBy_alloc _ _ none) (by intro b' e; cases e))
              have HCE : Hid ((w2.alloc (.cells #[.int .i64 (k : Int)] 3)).cell? ⟨w2.heap.size, 0, none⟩ = some (.int .i64 (k : Int))) := Lib.hid (by rw [cell_alloc, if_pos (by simp)]; rfl)
              have HB3 : Hid (Below W0.heap.size W0 (w2.alloc (.cells #[.int .i64 (k : Int)] 3))) := Lib.hid (HB2.out.alloc HB2.out.size _)
              clear hp
              go_wp2_with (first | (refine wl_appendI rfl _ _ rfl W0.heap.size (.slice oa (V.pickTo P l k).length oc) (V.pickTo P l k) rfl HI3.out w2.heap.size k rfl HCE.out (by omega) HB3.out.size ?_; intro v' w3 hi3 hg3) | fail)
              rw [← HK.out] at hi3
              have HI4 := Lib.hid hi3
              have HB4 : Hid (Below W0.heap.size W0 w3) := Lib.hid ⟨hg3.os.trans HB3.out.os, hg3.tape.trans HB3.out.tape, hg3.output.trans HB3.out.output, Nat.le_trans HB3.out.size hg3.size, fun i hi => (hg3.block i (Nat.lt_of_lt_of_le hi HB3.out.size) (fun e => by have := HBLK.out i e.symm; omega)).trans (HB3.out.block i hi)⟩
              clear hi3 hg3
              go_wp2_with fail
              go_roundw
              case rel => exact ⟨k + 1, by omega, by go_num, HI4.out, HB4.out⟩
              case measure => simp [intOf]; omega
    · obtain rfl : k = l.length := by omega
      go_wp2
      go_ret
      exact ⟨_, rfl, by
        obtain ⟨h1, h2⟩ := HIR.out
        refine ⟨h1, ?_⟩
        rcases h2 with h2 | ⟨g, cap, cur, e, hb, rest⟩
        · exact .inl h2
        · exact .inr ⟨g, cap, cur, e, by have := HZ0.out; omega, rest⟩, HBW.out⟩

set_option maxRecDepth 100000 in
set_option maxHeartbeats 6400000 in
theorem rwithin_any (d : List Int) (time : Int) (v : Value) (l : List V.Comp) (n : Int) (nm : V.Bs) (nr : Int) (vr : Value) (lr : List V.Itv) (w : World) (hm : MaxOk w) (hd : d.length = 32) (hv : Comps w v l) (hl : l.length ≤ 100000) (hr : Itvs w vr lr) (hs : Lens lr) (hlr : lr.length ≤ maxLen) :
    Calls Tryz.prog 19 #[.agg (icells d time v), .int .i64 n, .string ⟨nm.toArray⟩, setV nr vr] w (WithPost (V.wIn n nm nr lr) l w) := by
  have HL := Lib.hid hv
  have HR := Lib.hid hr
  have HS := Lib.hid hs
  have HLR := Lib.hid hlr
  have HM := Lib.hid hm
  have h33 := icells_33 hd time v
  obtain ⟨va, vc, rfl, hjunk⟩ := hv
  obtain ⟨ra, rc, rfl⟩ := hr.slice
  obtain ⟨W0, hW0⟩ : ∃ W0, W0 = (w.alloc (.cells (icells d time (.slice va l.length vc)) 26)).alloc (.cells #[.int .i64 nr, .slice ra lr.length rc] 39) := ⟨_, rfl⟩
  have hb0 : Below w.heap.size w W0 := by rw [hW0]; exact ((Below.refl _ w).alloc (Nat.le_refl _) _).alloc (by simp) _
  have hx33 : W0.cell? ⟨w.heap.size, 33, none⟩ = some (.slice va l.length vc) := by rw [hW0, cell_alloc, if_neg (by simp), World.cell?_alloc_new]; exact h33
  have hq0 : W0.cell? ⟨w.heap.size + 1, 0, none⟩ = some (.int .i64 nr) := by rw [hW0, cell_alloc, if_pos (by simp)]; rfl
  have hq1 : W0.cell? ⟨w.heap.size + 1, 1, none⟩ = some (.slice ra lr.length rc) := by rw [hW0, cell_alloc, if_pos (by simp)]; rfl
  have hz0 : W0.heap.size = w.heap.size + 2 := by rw [hW0]; simp
  have HB0 := Lib.hid hb0
  have HC := Lib.hid (And.intro hx33 (And.intro hq0 hq1))
  have HZ0 := Lib.hid hz0
  have HW0 := Lib.hid hW0
  have HPF : Hid (∀ c : V.Comp, V.wIn n nm nr lr c = ((nr == n) && ((c.sch == n) && ((c.name == nm) && V.containsL nr lr c.ver)))) := Lib.hid (fun c => rfl)
  obtain ⟨P, hP⟩ : ∃ P, P = V.wIn n nm nr lr := ⟨_, rfl⟩
  rw [← hP] at HPF ⊢
  obtain ⟨NB, hNB⟩ : ∃ NB, NB = ByteArray.mk nm.toArray := ⟨_, rfl⟩
  have HNB := Lib.hid hNB
  rw [← hNB]
  clear hd hjunk h33 hm hr hs hlr hb0 hx33 hq0 hq1 hz0 hW0 hP hNB
  unfold setV
  generalize icells d time (.slice va l.length vc) = ic at *
  go_enter Tryz.func19, Tryz.ntmps19
  obtain ⟨y0, y1, y2⟩ := HC.out
  rw [HW0.out] at y0 y1 y2
  go_wp2_with fail
  rw [← HW0.out]
  clear y0 y1 y2
  go_loopw [9, 10] (fun ov iv wr => ∃ k : Nat, k ≤ l.length ∧ iv = .int .i64 k ∧ IRow wr W0.heap.size ov (V.pickTo P l k) ∧ Below W0.heap.size W0 wr) (fun _ iv _ => l.length - (intOf iv).toNat)
  case atStart => exact ⟨0, Nat.zero_le _, rfl, IRow.nil _ _, Below.refl _ _⟩
  case round =>
    obtain ⟨k, hk, rfl, hir, hbr⟩ := hrel
    have HIR := Lib.hid hir
    have HBR := Lib.hid hbr
    have hblk := hir.block
    have HBLK := Lib.hid hblk
    obtain ⟨oa, oc, hov⟩ := hir.slice
    subst hov
    have hkl := V.pickTo_len P l k
    have y0 := below_keep hbr HC.out.1
    have y1 := below_keep hbr HC.out.2.1
    have y2 := below_keep hbr HC.out.2.2
    have HBW := Lib.hid (HB0.out.trans (hbr.mono HB0.out.size))
    clear hir hbr hblk
    by_cases hlt : k < l.length
    · obtain ⟨hxw, b, off, rfl, hblt, hxr⟩ := HL.out.at k hlt
      have HST := Lib.hid (V.pickTo_step (p := P) hlt)
      have HX := Lib.hid hxw
      have HXR := Lib.hid (rangeAt_below hxr HBW.out)
      have hi1 : (0 : Int) ≤ (k : Int) := by omega
      have hi2 : (k : Int) < (l.length : Int) := by omega
      have HPX := Lib.hid (HPF.out l[k])
      clear hxw hxr
      generalize l[k] = x at *
      have hb1 : Below W0.heap.size W0 (wr.alloc (.cells (ccells x) 66)) := HBR.out.alloc HBR.out.size _
      have hbx : Below wr.heap.size wr (wr.alloc (.cells (ccells x) 66)) := (Below.refl _ _).alloc (Nat.le_refl _) _
      have hir1 : IRow (wr.alloc (.cells (ccells x) 66)) W0.heap.size (.slice oa (V.pickTo P l k).length oc) (V.pickTo P l k) := HIR.out.kept (row := none) (World.grownBy_alloc wr _ none) (by intro b' e; cases e)
      have k1 : (wr.alloc (.cells (ccells x) 66)).cell? ⟨wr.heap.size, 1, none⟩ = some (.int .i64 x.sch) := by rw [World.cell?_alloc_new]; rfl
      have k3 : (wr.alloc (.cells (ccells x) 66)).cell? ⟨wr.heap.size, 3, none⟩ = some (.string ⟨x.ver.toArray⟩) := by rw [World.cell?_alloc_new]; rfl
      obtain ⟨NA, hNA⟩ : ∃ NA, NA = ByteArray.mk x.name.toArray := ⟨_, rfl⟩
      have k2 : (wr.alloc (.cells (ccells x) 66)).cell? ⟨wr.heap.size, 2, none⟩ = some (.string NA) := by rw [World.cell?_alloc_new, hNA]; rfl
      have HEQ : Hid ((NA.toList == NB.toList) = (x.name == nm)) := Lib.hid (by rw [hNA, HNB.out, ba_eq])
      have z0 := below_keep hbx y0
      have z1 := below_keep hbx y1
      have z2 := below_keep hbx y2
      have HVL : Hid (x.ver.length ≤ maxLen) := Lib.hid HX.out.ver
      have HB1 := Lib.hid hb1
      have HI1 := Lib.hid hir1
      have HMX := Lib.hid (HM.out.below (HB0.out.trans (hb1.mono HB0.out.size)))
      have HRX := Lib.hid (HR.out.below (HB0.out.trans (hb1.mono HB0.out.size)))
      clear hb1 hbx hir1 hNA
      have NOT : Hid (P x = false → V.pickTo P l (k + 1) = V.pickTo P l k) := Lib.hid (fun h => by rw [HST.out, h]; rfl)
      have YES : Hid (P x = true → V.pickTo P l (k + 1) = V.pickTo P l k ++ [k]) := Lib.hid (fun h => by rw [HST.out, h]; rfl)
      clear HST
      rcases h1 : (nr == n) with _ | _
      · have HK := Lib.hid (NOT.out (by rw [HPX.out, h1]; rfl))
        go_wp2_with (first | (refine wl_load rfl _ rfl b (off + k * 36) rfl x HX.out HXR.out ?_) | (refine wl_store rfl _ _ rfl _ _ rfl x HX.out rfl rfl ?_) | fail)
        go_roundw
        case rel => exact ⟨k + 1, by omega, by go_num, by rw [HK.out]; exact HI1.out, HB1.out⟩
        case measure => simp [intOf]; omega
      · rcases h2 : (x.sch == n) with _ | _
        · have HK := Lib.hid (NOT.out (by rw [HPX.out, h1, h2]; rfl))
          go_wp2_with (first | (refine wl_load rfl _ rfl b (off + k * 36) rfl x HX.out HXR.out ?_) | (refine wl_store rfl _ _ rfl _ _ rfl x HX.out rfl rfl ?_) | fail)
          go_roundw
          case rel => exact ⟨k + 1, by omega, by go_num, by rw [HK.out]; exact HI1.out, HB1.out⟩
          case measure => simp [intOf]; omega
        · rcases h3 : (NA.toList == NB.toList) with _ | _
          · have HK := Lib.hid (NOT.out (by rw [HPX.out, h1, h2, ← HEQ.out, h3]; rfl))
            go_wp2_with (first | (refine wl_load rfl _ rfl b (off + k * 36) rfl x HX.out HXR.out ?_) | (refine wl_store rfl _ _ rfl _ _ rfl x HX.out rfl rfl ?_) | fail)
            go_roundw
            case rel => exact ⟨k + 1, by omega, by go_num, by rw [HK.out]; exact HI1.out, HB1.out⟩
            case measure => simp [intOf]; omega
          · have HPY : Hid (P x = V.containsL nr lr x.ver) := Lib.hid (by rw [HPX.out, h1, h2, ← HEQ.out, h3]; rfl)
            go_wp2_with (first | (refine wl_load rfl _ rfl b (off + k * 36) rfl x HX.out HXR.out ?_) | (refine wl_store rfl _ _ rfl _ _ rfl x HX.out rfl rfl ?_) | fail)
            clear k1 k2 k3 y0 y1 y2 z0 z1 z2
            generalize (wr.alloc (.cells (ccells x) 66)) = W1 at *
            refine (rrContains_any nr (.slice ra lr.length rc) lr x.ver W1 HMX.out HRX.out HS.out HLR.out HVL.out).mono ?_
            rintro e w2 ⟨rfl, hb2⟩
            rw [← HPY.out]
            have HB2 := Lib.hid (HB1.out.trans (hb2.mono HB1.out.size))
            have HI2 : Hid (IRow w2 W0.heap.size (.slice oa (V.pickTo P l k).length oc) (V.pickTo P l k)) := Lib.hid (HI1.out.kept (row := none) (below_grown hb2 none) (by intro b' e; cases e))
            clear hb2
            rcases hp : P x with _ | _
            · have HK := Lib.hid (NOT.out hp)
              clear hp
              go_wp2_with fail
              go_roundw
              case rel => exact ⟨k + 1, by omega, by go_num, by rw [HK.out]; exact HI2.out, HB2.out⟩
              case measure => simp [intOf]; omega
            · have HK := Lib.hid (YES.out hp)
              have HI3 : Hid (IRow (w2.alloc (.cells #[.int .i64 (k : Int)] 3)) W0.heap.size (.slice oa (V.pickTo P l k).length oc) (V.pickTo P l k)) := Lib.hid (HI2.out.kept (row := none) (World.grownBy_alloc _ _ none) (by intro b' e; cases e))
              have HCE : Hid ((w2.alloc (.cells #[.int .i64 (k : Int)] 3)).cell? ⟨w2.heap.size, 0, none⟩ = some (.int .i64 (k : Int))) := Lib.hid (by rw [cell_alloc, if_pos (by simp)]; rfl)
              have HB3 : Hid (Below W0.heap.size W0 (w2.alloc (.cells #[.int .i64 (k : Int)] 3))) := Lib.hid (HB2.out.alloc HB2.out.size _)
              clear hp
              go_wp2_with (first | (refine wl_appendI rfl _ _ rfl W0.heap.size (.slice oa (V.pickTo P l k).length oc) (V.pickTo P l k) rfl HI3.out w2.heap.size k rfl HCE.out (by omega) HB3.out.size ?_; intro v' w3 hi3 hg3) | fail)
              rw [← HK.out] at hi3
              have HI4 := Lib.hid hi3
              have HB4 : Hid (Below W0.heap.size W0 w3) := Lib.hid ⟨hg3.os.trans HB3.out.os, hg3.tape.trans HB3.out.tape, hg3.output.trans HB3.out.output, Nat.le_trans HB3.out.size hg3.size, fun i hi => (hg3.block i (Nat.lt_of_lt_of_le hi HB3.out.size) (fun e => by have := HBLK.out i e.symm; omega)).trans (HB3.out.block i hi)⟩
              clear hi3 hg3
              go_wp2_with fail
              go_roundw
              case rel => exact ⟨k + 1, by omega, by go_num, HI4.out, HB4.out⟩
              case measure => simp [intOf]; omega
    · obtain rfl : k = l.length := by omega
      go_wp2
      go_ret
      exact ⟨_, rfl, by
        obtain ⟨h1, h2⟩ := HIR.out
        refine ⟨h1, ?_⟩
        rcases h2 with h2 | ⟨g, cap, cur, e, hb, rest⟩
        · exact .inl h2
        · exact .inr ⟨g, cap, cur, e, by have := HZ0.out; omega, rest⟩, HBW.out⟩
end Go.Proofs.YtpjjkbdkgaehkaaGreatDoor
