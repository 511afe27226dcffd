/-
  Lemmas for the law.
-/
import Derived.Test.YtnhfaincdabdkaaGreatDoorC32x39
import Derived.Test.YtnhfaincdabdkaaGreatDoorC32x42
import Derived.Test.YtnhfaincdabdkaaGreatDoorC32x12
import Derived.Test.YtnhfaincdabdkaaGreatDoorC32x02
import Derived.Test.YtnhfaincdabdkaaGreatDoorCards
import Derived.Test.YtnhfaincdabdkaaGreatDoorTie
import Derived.Test.YtnhfaincdabdkaaGreatDoorRows
import Derived.ProofKit
import Derived.SliceStrings
import Derived.OpenShut
import Derived.Deep.DeepHandedRow
import Derived.Lib.LaidTab
import Derived.JoinedOf
set_option linter.all false
set_option maxRecDepth 100000
set_option maxHeartbeats 3200000
namespace Go.Proofs.YtnhfaincdabdkaaGreatDoor
open Go.RowKit
theorem zfi (a : Option Addr) (m cap : Nat) (w : World) (hm : zg w) (hp : zai w) (ht : Nums w a m) (hmc : m ≤ cap) :
  Calls Tryz.prog 5 #[.slice a m cap] w fun e w' => e = .returned (.bool true) /\ Below w.heap.size w w' := by
 have HM := zuq hm
 have HP := zuq hp
 have HT := zuq (And.intro ht hmc)
 clear hm hp ht hmc
 go_enter Tryz.func5, Tryz.ntmps5
 go_wp2_with fail
 refine (zg0 a m cap 60 w HT.out.1 HT.out.2 (by decide)).mono ?_
 rintro e w1 ⟨rfl, ht1, hb1, hz1⟩
 have HT1 := zuq ht1
 have HB1 := zuq hb1
 clear ht1 hb1 hz1
 go_wp2_with fail
 refine (zdc w.heap.size 0 w1 (HM.out.below HB1.out) HT1.out (by decide)).mono ?_
 rintro e w2 ⟨x, u, rfl, hx, hu, ht2, hg2⟩
 have HB2 := zuq (HB1.out.trans (wj hg2 (zus _) HB1.out.size))
 have HL : Hid (x.id.length ≤ maxLen /\ x.aff.length ≤ maxLen) := zuq (by have := hx.idl; have := hx.len; unfold maxLen; omega)
 have HE := zuq hx.encV
 obtain ⟨pa, pc, rfl⟩ := hu.slice
 obtain ⟨hb3, c0, c1, c2, c3⟩ := zau x (.slice pa x.aff.length pc) w2
 have HB3 := zur HB2 hb3
 have HU3 := zuq (hu.below hb3)
 have HDE : Hid (V.decV (V.encV x).1 = (x, 0)) := zuq (V.zoz (by rw [HE.out]))
 have HLN := zuq (V.encV_len (x := x) (by rw [HE.out]))
 clear hx hu ht2 hg2 hb3 HB2 HT1
 unfold advV
 go_wp2_with fail
 generalize w2.alloc (.cells #[.string ⟨x.id.toArray⟩, .int .i64 x.rev, .int .i64 x.sev, .slice pa x.aff.length pc] 41) = w3 at *
 refine (vz x (.slice pa x.aff.length pc) w3 (HM.out.below HB3.out) (HP.out.below HB3.out) HU3.out HL.out.1 HL.out.2).mono ?_
 intro e w4 he
 obtain ⟨u4, N4, W4, rfl, hbuf⟩ := he.1 (by rw [HE.out])
 have hb4 := he.2.2
 have HB4 := zur HB3 hb4
 have HU4 := zuq (HU3.out.below hb4)
 have HBI := zuq hbuf.bytesInA
 replace c0 := zb hb4 c0
 replace c1 := zb hb4 c1
 replace c2 := zb hb4 c2
 replace c3 := zb hb4 c3
 clear he hb4 HB3 HU3 hbuf HE
 generalize (V.encV x).1 = D at *
 obtain ⟨ua, uc, hue, hj⟩ := HBI.out
 subst hue
 clear hj
 go_wp2_with fail
 refine (zen (.slice ua D.length uc) D w4 (HM.out.below HB4.out) (HP.out.below HB4.out) HBI.out (by have := HLN.out; unfold maxLen; omega)).mono ?_
 rintro e w5 ⟨u5, rfl, hu5, hb5⟩
 rw [HDE.out] at hu5 ⊢
 simp only at hu5 ⊢
 obtain ⟨pa5, pc5, rfl⟩ := hu5.slice
 obtain ⟨hb6, d0, d1, d2, d3⟩ := zau x (.slice pa5 x.aff.length pc5) w5
 have hb56 := hb5.trans (hb6.mono hb5.size)
 have HB6 := zur HB4 hb56
 have HU6 := zuq (HU4.out.below hb56)
 have HV6 := zuq (hu5.below hb6)
 replace c0 := zb hb56 c0
 replace c1 := zb hb56 c1
 replace c2 := zb hb56 c2
 replace c3 := zb hb56 c3
 clear hb5 hb6 hb56 hu5 HB4 HU4 HBI
 unfold advV
 go_wp2_with fail
 generalize w5.alloc (.cells #[.string ⟨x.id.toArray⟩, .int .i64 x.rev, .int .i64 x.sev, .slice pa5 x.aff.length pc5] 41) = w6 at *
 refine (zln x (.slice pa x.aff.length pc) (.slice pa5 x.aff.length pc5) w6 HU6.out HV6.out HL.out.2).mono ?_
 rintro e w7 ⟨rfl, hb7⟩
 have HB7 := zur HB6 hb7
 clear hb7 HB6 HU6 HV6 c0 c1 c2 c3 d0 d1 d2 d3
 go_wp2_with fail
 refine (zc3 w7 (HM.out.below HB7.out) (HP.out.below HB7.out)).mono ?_
 rintro e w8 ⟨rfl, hb8⟩
 have HB8 := zur HB7 hb8
 clear hb8
 go_wp2
 go_ret
 exact ⟨zd rfl, HB8.out⟩
open Go.ChangeShapes Go.WideShapes Go.ChangeAt Go.RowKit
theorem cellsI : Tryz.prog.cellsOf 3 = 1 := by kernel_rfl
theorem cellsS : Tryz.prog.cellsOf 9 = 1 := by kernel_rfl
theorem zt2 {H : Type} {enc : TypeId × Value -> H} {W : World} {base : Nat} {v : Value} {d : DataW H} {p : List MemPlace} (hv : Value.okWide Tryz.prog W .any base 28 v)
  (h : DataW.Trod enc Tryz.prog W 0 (fun _ => true) true 28 v d p) : ∃ a m cap, v = .slice a m cap /\ Nums W a m := by
 obtain ⟨a0, len, cap, rfl⟩ := okWide_slice Tryz.underlying28 hv
 refine ⟨a0, len, cap, rfl, ?_⟩
 obtain ⟨fuel0, hf⟩ := h
 rcases open_ints Tryz.underlying28 Tryz.underlying3 cellsI hf with ⟨hcs, hx⟩ | ⟨a, len', cap', zs, hcs, _, hl, hm, hz, hx, hcell, hwz⟩
 ·simp [Value.cells] at hcs
  obtain ⟨rfl, rfl, rfl⟩ := hcs
  exact ⟨by decide, fun j hj => absurd hj (by omega)⟩
 ·simp [Value.cells] at hcs
  obtain ⟨rfl, rfl, rfl⟩ := hcs
  simp only [if_true] at hz
  refine ⟨by omega, fun j hj => ?_⟩
  obtain ⟨b, off, spot⟩ := a
  have hspot : spot = none := by simpa [Addr.add] using World.cell?_spot (hcell 0 (by omega))
  subst hspot
  have hc := hcell j (by omega)
  rw [add_plain] at hc
  have hin : zs.getD j 0 ∈ zs := by rw [List.getD_eq_getElem?_getD, List.getElem?_eq_getElem (by omega)]; exact List.getElem_mem _
  exact ⟨b, off, zs.getD j 0, rfl, World.block_lt_of_cell? _ _ hc, hc, hwz _ hin⟩
theorem read_strs {H : Type} {enc : TypeId × Value -> H} {W : World} {base : Nat} {v : Value} {d : DataW H} {p : List MemPlace} (hv : Value.okWide Tryz.prog W .any base 61 v)
  (h : DataW.Trod enc Tryz.prog W 0 (fun _ => true) true 61 v d p) : ∃ L : List V.Bs, Strs W v L /\ L.length ≤ maxLen /\ ∀ x ∈ L, x.length ≤ maxLen := by
 obtain ⟨a0, len, cap, rfl⟩ := okWide_slice Tryz.underlying61 hv
 obtain ⟨fuel0, hf⟩ := h
 rcases open_strings Tryz.underlying61 Tryz.underlying9 cellsS hf with ⟨hcs, hx⟩ | ⟨a, len', cap', ss, hcs, _, hl, hm, hz, hx, hcell, hwz⟩
 ·simp [Value.cells] at hcs
  obtain ⟨rfl, rfl, rfl⟩ := hcs
  exact ⟨[], Strs.nil W, by simp, fun x hx => by simp at hx⟩
 ·simp [Value.cells] at hcs
  obtain ⟨rfl, rfl, rfl⟩ := hcs
  simp only [if_true] at hz
  have hll : ((ss.take len).map fun s : ByteArray => s.data.toList).length = len := by rw [List.length_map, List.length_take]; omega
  refine ⟨(ss.take len).map fun s : ByteArray => s.data.toList, ⟨some a, cap, by rw [hll], fun j hj => ?_⟩, by omega, fun x hx => ?_⟩
  ·rw [hll] at hj
   obtain ⟨b, off, spot⟩ := a
   have hspot : spot = none := by simpa [Addr.add] using World.cell?_spot (hcell 0 (by omega))
   subst hspot
   have hc := hcell j (by omega)
   rw [add_plain] at hc
   refine ⟨b, off, rfl, World.block_lt_of_cell? _ _ hc, ?_⟩
   rw [hc]
   congr 2
   rw [List.getElem_map, List.getElem_take, List.getD_eq_getElem?_getD, List.getElem?_eq_getElem (by omega)]
   exact (ziw _).symm
  ·rw [List.mem_map] at hx
   obtain ⟨s, hs, rfl⟩ := hx
   rw [zf]
   exact hwz s (List.mem_of_mem_take hs)
open Go.ChangeShapes Go.WideShapes Go.ChangeAt Go.RowKit
theorem zfa {H : Type} {enc : TypeId × Value -> H} {W : World} {base : Nat} {v : Value} {d : DataW H} {p : List MemPlace} (hv : Value.okWide Tryz.prog W .any base 28 v)
  (h : DataW.Trod enc Tryz.prog W 0 (fun _ => true) true 28 v d p) : ∃ a m cap, v = .slice a m cap /\ Nums W a m /\ m ≤ cap := by
 obtain ⟨a1, m1, c1, e1, hn⟩ := zt2 hv h
 obtain ⟨a0, len, cap, rfl⟩ := okWide_slice Tryz.underlying28 hv
 cases e1
 refine ⟨_, _, _, rfl, hn, ?_⟩
 obtain ⟨fuel0, hf⟩ := h
 rcases open_ints Tryz.underlying28 Tryz.underlying3 cellsI hf with ⟨hcs, hx⟩ | ⟨a, len', cap', zs, hcs, _, hl, hm, hz, hx, hcell, hwz⟩
 ·simp [Value.cells] at hcs
  obtain ⟨rfl, rfl, rfl⟩ := hcs
  exact zus _
 ·simp [Value.cells] at hcs
  obtain ⟨rfl, rfl, rfl⟩ := hcs
  exact hl
end Go.Proofs.YtnhfaincdabdkaaGreatDoor
namespace Go.Proofs.YtnhfaincdabdkaaGreatDoor.laying
open Go.RowKit
theorem own : ownKnob Tryz.prog.godebug = none := by kernel_rfl
theorem laidOut : laidOutB Tryz.prog = true := by kernel_rfl
mutual
def flat : DataW Unit -> List Value
 | .lit (.int k n) => [.int k n]
 | .agg ps => zs1 ps
 | _ => []
def zs1 : List (DataW Unit) -> List Value
 | [] => []
 | d :: r => flat d ++ zs1 r
end
def za4 (l : List Value) : Obj -> Obj
 | .cells _ t frozen => .cells l.toArray t frozen
 | o => o
noncomputable def laidWorld (os : Os) : World :=
 { World.holding Tryz.prog os ⟨#[], #[], []⟩ with
   heap := ((World.holding Tryz.prog os ⟨#[], #[], []⟩).heap.modify 3 (za4 (flat Rows.laid_unicode_utf8_acceptRanges))).modify 2 (za4 (flat Rows.laid_unicode_utf8_first)) }
end Go.Proofs.YtnhfaincdabdkaaGreatDoor.laying
namespace Go.Proofs.YtnhfaincdabdkaaGreatDoor.laying
open Go.RowKit
noncomputable def laidWorldP (os : Os) : World :=
 { World.holding Tryz.prog os ⟨#[], #[], []⟩ with
   heap := (((((World.holding Tryz.prog os ⟨#[], #[], []⟩).heap.modify 3 (za4 (flat Rows.laid_unicode_utf8_acceptRanges))).modify 2 (za4 (flat Rows.laid_unicode_utf8_first))).modify 1 (za4 (flat Rows.laid_internal_strconv_uint64pow10))).modify 4 (za4 (flat Rows.laid_math_bits_deBruijn32tab))).modify 5 (za4 (flat Rows.laid_math_bits_deBruijn64tab)) }
end Go.Proofs.YtnhfaincdabdkaaGreatDoor.laying
namespace Go.Proofs.YtnhfaincdabdkaaGreatDoor
open Go.RowKit
theorem zgf : laidOutB Tryz.prog = true := by kernel_rfl
theorem zgx : mapsRowed Tryz.prog = true := by kernel_rfl
end Go.Proofs.YtnhfaincdabdkaaGreatDoor
