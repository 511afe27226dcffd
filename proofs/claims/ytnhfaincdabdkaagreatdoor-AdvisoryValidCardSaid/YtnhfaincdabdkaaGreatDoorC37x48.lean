/-
  Lemmas for the law.
-/
import Derived.Test.YtnhfaincdabdkaaGreatDoorC37x45
import Derived.Test.YtnhfaincdabdkaaGreatDoorC37x46
import Derived.Test.YtnhfaincdabdkaaGreatDoorC37x47
import Derived.Test.YtnhfaincdabdkaaGreatDoorC37x19
import Derived.Test.YtnhfaincdabdkaaGreatDoorC37x03
import Derived.Test.YtnhfaincdabdkaaGreatDoorCards
import Derived.Test.YtnhfaincdabdkaaGreatDoorTie
import Derived.Test.YtnhfaincdabdkaaGreatDoorRows
import Derived.ProofKit
import Derived.SliceStrings
import Derived.Deep.DeepHandedRow
import Derived.Lib.LaidTab
import Derived.JoinedOf
set_option linter.all false
set_option maxRecDepth 100000
set_option maxHeartbeats 6400000
namespace Go.Proofs.YtnhfaincdabdkaaGreatDoor
open Go.RowKit
theorem V.pkgs_len (x : V.Adv) : (V.pkgs x).length ≤ x.aff.length := by
 unfold V.pkgs
 split <;> simp
theorem zef (x : V.Adv) (v : Value) (w : World) (hm : zk w) (hp : zcj w) (hv : Affs w v x.aff) (hid : x.id.length ≤ maxLen) (hl : x.aff.length ≤ maxLen) :
  Calls Tryz.prog 11 #[advV x v] w fun e w' => e = .returned (.bool true) /\ Below w.heap.size w w' := by
 obtain ⟨pa, pc, rfl⟩ := hv.slice
 obtain ⟨hb, c0, c1, c2, c3⟩ := uj x (.slice pa x.aff.length pc) w
 have HM := zs8 hm
 have HP := zs8 hp
 have HL := zs8 (And.intro hid hl)
 have HPL : Hid ((V.pkgs x).length ≤ maxLen) := zs8 (Nat.le_trans (V.pkgs_len x) hl)
 have HB1 := zs8 hb
 have HV1 := zs8 (hv.below hb)
 clear hm hp hid hl hv hb
 unfold advV
 go_enter Tryz.func11, Tryz.ntmps11
 go_wp2_with fail
 generalize w.alloc (.cells #[.string ⟨x.id.toArray⟩, .int .i64 x.rev, .int .i64 x.sev, .slice pa x.aff.length pc] 41) = w1 at *
 generalize hX : w.heap.size = X at c0 c1 c2 c3 ⊢
 refine (few_any x (.slice pa x.aff.length pc) w1 HV1.out HL.out.2).mono ?_
 rintro e w2 ⟨hr, hb2⟩
 obtain ⟨r, rfl⟩ := hr
 have HB2 := zs9 HB1 hb2
 have HV2 := zs8 (HV1.out.below hb2)
 replace c0 := zb hb2 c0
 replace c1 := zb hb2 c1
 replace c2 := zb hb2 c2
 replace c3 := zb hb2 c3
 clear hb2 HV1 HB1
 rcases r with _ | _
 case false =>
  go_wp2_with fail
  refine (zfl w2 (HM.out.below HB2.out) (HP.out.below HB2.out)).mono ?_
  rintro e w3 ⟨rfl, hb3⟩
  have HB3 := zs9 HB2 hb3
  clear hb3
  go_wp2
  go_ret
  exact ⟨zc rfl, hX ▸ HB3.out⟩
 go_wp2_with fail
 refine (zau x (.slice pa x.aff.length pc) w2 (HM.out.below HB2.out) (HP.out.below HB2.out) HV2.out HL.out.1 HL.out.2).mono ?_
 intro e w3 he
 obtain ⟨u3, rfl, hb3, hc3⟩ := he.conv
 have HB3 := zs9 HB2 hb3
 have HV3 := zs8 (HV2.out.below hb3)
 have HC3 := zs8 hc3
 replace c0 := zb hb3 c0
 replace c1 := zb hb3 c1
 replace c2 := zb hb3 c2
 replace c3 := zb hb3 c3
 clear he hb3 hc3 HB2 HV2
 go_wp2_with fail
 refine (ziy x (.slice pa x.aff.length pc) w3 (HM.out.below HB3.out) (HP.out.below HB3.out) HV3.out HL.out.1 HL.out.2).mono ?_
 intro e wr he
 obtain ⟨u4, rfl, hb4, hc4⟩ := he.conv
 have HB := zs9 HB3 hb4
 have HV := zs8 (HV3.out.below hb4)
 have HB7 := zs8 hb4
 have HC1 := HC3
 have HC2 := zs8 hc4
 replace c0 := zb hb4 c0
 replace c1 := zb hb4 c1
 replace c2 := zb hb4 c2
 replace c3 := zb hb4 c3
 clear he hb4 hc4 HB3 HV3 HC3
 generalize (V.encV x).1 = D at *
 generalize (V.encV x).2 = c at *
 go_wp2_with fail
 refine wp_region_held_drew (S := (fun W' => Below wr.heap.size wr W' /\ W'.cell? ⟨X, 0, none⟩ = some (.string ⟨x.id.toArray⟩) /\ W'.cell? ⟨X, 1, none⟩ = some (.int .i64 x.rev) /\ W'.cell? ⟨X, 2, none⟩ = some (.int .i64 x.sev) /\ W'.cell? ⟨X, 3, none⟩ = some (.slice pa x.aff.length pc))) (by kernel_rfl) (by (try dsimp only); exact ⟨(ztb _ _).drew, zb (ztb _ _).drew c0, zb (ztb _ _).drew c1, zb (ztb _ _).drew c2, zb (ztb _ _).drew c3⟩) (fun hHeld => ?_)
 refine tk 0 ?_
 refine tk 2 ?_
 refine rd 1 fun K hK => ?_
 go_simp
 refine (yy x (.slice pa x.aff.length pc) _ (HM.out.below (HB.out.trans ((show Below wr.heap.size wr _ from (by first | assumption | exact And.left (by assumption))).mono HB.out.size))) (HV.out.below (show Below wr.heap.size wr _ from (by first | assumption | exact And.left (by assumption)))) HL.out.1 HL.out.2).mono ?_
 rintro e wr1 ⟨rfl, hbr1⟩
 try dsimp only
 refine hK.out _ _ ?_ (fun hHeld => nx ?_)
 ·(try dsimp only); go_split_ands; exact ⟨Below.trans (by assumption) (hbr1.mono (Below.size (by assumption))), zte hbr1, zte hbr1, zte hbr1, zte hbr1⟩
 clear hK K
 refine rd 3 fun K hK => ?_
 go_simp
 refine (zav x (.slice pa x.aff.length pc) _ (HM.out.below (HB.out.trans ((show Below wr.heap.size wr _ from (by first | assumption | exact And.left (by assumption))).mono HB.out.size))) (HV.out.below (show Below wr.heap.size wr _ from (by first | assumption | exact And.left (by assumption)))) HL.out.1 HL.out.2).mono ?_
 rintro e wr3 ⟨rfl, hbr3⟩
 try dsimp only
 refine hK.out _ _ ?_ (fun hHeld => nx ?_)
 ·(try dsimp only); go_split_ands; exact ⟨Below.trans (by assumption) (hbr3.mono (Below.size (by assumption))), zte hbr3, zte hbr3, zte hbr3, zte hbr3⟩
 clear hK K
 refine tv 4 ((.bool true)) ?_ ?_
 ·exact fun w' hSw => by go_simp; try rfl
 refine tk 5 ?_
 refine tk 6 ?_
 refine tk 7 ?_
 refine tv 8 ((.bool true)) ?_ ?_
 ·exact fun w' hSw => by go_simp; try rfl
 refine tk 9 ?_
 refine tk 10 ?_
 refine tk 11 ?_
 refine tv 12 ((.string ⟨D.toArray⟩)) ?_ ?_
 ·exact fun w' hSw => zox rfl rfl (HC1.out _ (HB7.out.trans (hSw.1.mono HB7.out.size)))
 refine tk 13 ?_
 refine tv 14 ((.string ⟨D.toArray⟩)) ?_ ?_
 ·exact fun w' hSw => zox rfl rfl (HC2.out _ hSw.1)
 refine tv 15 ((.bool true)) ?_ ?_
 ·exact fun w' hSw => by go_simp; try rfl
 refine tk 16 ?_
 refine tk 17 ?_
 refine tk 18 ?_
 refine tk 20 ?_
 refine rd 19 fun K hK => ?_
 go_simp
 refine (zf9 x (.slice pa x.aff.length pc) _ (HM.out.below (HB.out.trans ((show Below wr.heap.size wr _ from (by first | assumption | exact And.left (by assumption))).mono HB.out.size))) (HV.out.below (show Below wr.heap.size wr _ from (by first | assumption | exact And.left (by assumption)))) HL.out.1 HL.out.2).mono ?_
 rintro e wr19 ⟨u19, rfl, hg19, hbr19⟩
 try dsimp only
 have HG19 := zs8 hg19
 clear hg19
 refine hK.out _ _ ?_ (fun hHeld => nx ?_)
 ·(try dsimp only); go_split_ands; exact ⟨Below.trans (by assumption) (hbr19.mono (Below.size (by assumption))), zte hbr19, zte hbr19, zte hbr19, zte hbr19⟩
 clear hK K
 refine rd 21 fun K hK => ?_
 go_simp
 refine (ze9 x (.slice pa x.aff.length pc) _ (HM.out.below (HB.out.trans ((show Below wr.heap.size wr _ from (by first | assumption | exact And.left (by assumption))).mono HB.out.size))) (HV.out.below (show Below wr.heap.size wr _ from (by first | assumption | exact And.left (by assumption)))) HL.out.1 HL.out.2).mono ?_
 rintro e wr21 ⟨u21, rfl, hg21, hbr21⟩
 try dsimp only
 have HG21 := zs8 hg21
 have HG20 := zs8 (HG19.out.below hbr21)
 clear hg21
 refine hK.out _ _ ?_ (fun hHeld => nx ?_)
 ·(try dsimp only); go_split_ands; exact ⟨Below.trans (by assumption) (hbr21.mono (Below.size (by assumption))), zte hbr21, zte hbr21, zte hbr21, zte hbr21⟩
 clear hK K
 refine rd 22 fun K hK => ?_
 go_simp
 refine (zi6 u19 u21 (V.pkgs x) _ HG20.out HG21.out HPL.out).mono ?_
 rintro e wr22 ⟨rfl, hbr22⟩
 try dsimp only
 refine hK.out _ _ ?_ (fun hHeld => nx ?_)
 ·(try dsimp only); go_split_ands; exact ⟨Below.trans (by assumption) (hbr22.mono (Below.size (by assumption))), zte hbr22, zte hbr22, zte hbr22, zte hbr22⟩
 clear hK K
 refine tk 23 ?_
 refine tk 24 ?_
 refine rd 25 fun K hK => ?_
 go_simp
 refine (zfl _ (HM.out.below (HB.out.trans ((show Below wr.heap.size wr _ from (by first | assumption | exact And.left (by assumption))).mono HB.out.size))) (HP.out.below (HB.out.trans ((show Below wr.heap.size wr _ from (by first | assumption | exact And.left (by assumption))).mono HB.out.size)))).mono ?_
 rintro e wr25 ⟨rfl, hbr25⟩
 try dsimp only
 refine hK.out _ _ ?_ (fun hHeld => nx ?_)
 ·(try dsimp only); go_split_ands; exact ⟨Below.trans (by assumption) (hbr25.mono (Below.size (by assumption))), zte hbr25, zte hbr25, zte hbr25, zte hbr25⟩
 clear hK K
 refine tk 26 ?_
 refine tk 27 ?_
 refine wpAnyH_done (by kernel_rfl) ?_ _
 have HBZ := zs8 (HB.out.trans (hHeld.1.mono HB.out.size))
 clear hHeld
 go_wp2
 go_ret
 exact ⟨zc rfl, hX ▸ HBZ.out⟩
open Go.ChangeShapes Go.WideShapes Go.ChangeAt Go.RowKit
theorem cellsI : Tryz.prog.cellsOf 3 = 1 := by kernel_rfl
theorem cellsS : Tryz.prog.cellsOf 9 = 1 := by kernel_rfl
theorem read_nums {H : Type} {enc : TypeId × Value -> H} {W : World} {base : Nat} {v : Value} {d : DataW H} {p : List MemPlace} (hv : Value.okWide Tryz.prog W .any base 28 v)
  (h : DataW.Trod enc Tryz.prog W 0 (fun _ => true) true 28 v d p) : ∃ a m cap, v = .slice a m cap /\ Nums W a m := by
 obtain ⟨a0, len, cap, rfl⟩ := okWide_slice Tryz.underlying28 hv
 refine ⟨a0, len, cap, rfl, ?_⟩
 obtain ⟨fuel0, hf⟩ := h
 rcases open_ints Tryz.underlying28 Tryz.underlying3 cellsI hf with ⟨hcs, hx⟩ | ⟨a, len', cap', zs, hcs, _, hl, hm, hz, hx, hcell, hwz⟩
 ·simp [Value.cells] at hcs
  obtain ⟨rfl, rfl, rfl⟩ := hcs
  exact ⟨by decide, fun j hj => absurd hj (by omega)⟩
 ·simp [Value.cells] at hcs
  obtain ⟨rfl, rfl, rfl⟩ := hcs
  simp only [if_true] at hz
  refine ⟨by omega, fun j hj => ?_⟩
  obtain ⟨b, off, spot⟩ := a
  have hspot : spot = none := by simpa [Addr.add] using World.cell?_spot (hcell 0 (by omega))
  subst hspot
  have hc := hcell j (by omega)
  rw [add_plain] at hc
  have hin : zs.getD j 0 ∈ zs := by rw [List.getD_eq_getElem?_getD, List.getElem?_eq_getElem (by omega)]; exact List.getElem_mem _
  exact ⟨b, off, zs.getD j 0, rfl, World.block_lt_of_cell? _ _ hc, hc, hwz _ hin⟩
theorem read_strs {H : Type} {enc : TypeId × Value -> H} {W : World} {base : Nat} {v : Value} {d : DataW H} {p : List MemPlace} (hv : Value.okWide Tryz.prog W .any base 61 v)
  (h : DataW.Trod enc Tryz.prog W 0 (fun _ => true) true 61 v d p) : ∃ L : List V.Bs, Strs W v L /\ L.length ≤ maxLen /\ ∀ x ∈ L, x.length ≤ maxLen := by
 obtain ⟨a0, len, cap, rfl⟩ := okWide_slice Tryz.underlying61 hv
 obtain ⟨fuel0, hf⟩ := h
 rcases open_strings Tryz.underlying61 Tryz.underlying9 cellsS hf with ⟨hcs, hx⟩ | ⟨a, len', cap', ss, hcs, _, hl, hm, hz, hx, hcell, hwz⟩
 ·simp [Value.cells] at hcs
  obtain ⟨rfl, rfl, rfl⟩ := hcs
  exact ⟨[], Strs.nil W, by simp, fun x hx => by simp at hx⟩
 ·simp [Value.cells] at hcs
  obtain ⟨rfl, rfl, rfl⟩ := hcs
  simp only [if_true] at hz
  have hll : ((ss.take len).map fun s : ByteArray => s.data.toList).length = len := by rw [List.length_map, List.length_take]; omega
  refine ⟨(ss.take len).map fun s : ByteArray => s.data.toList, ⟨some a, cap, by rw [hll], fun j hj => ?_⟩, by omega, fun x hx => ?_⟩
  ·rw [hll] at hj
   obtain ⟨b, off, spot⟩ := a
   have hspot : spot = none := by simpa [Addr.add] using World.cell?_spot (hcell 0 (by omega))
   subst hspot
   have hc := hcell j (by omega)
   rw [add_plain] at hc
   refine ⟨b, off, rfl, World.block_lt_of_cell? _ _ hc, ?_⟩
   rw [hc]
   congr 2
   rw [List.getElem_map, List.getElem_take, List.getD_eq_getElem?_getD, List.getElem?_eq_getElem (by omega)]
   exact (zg1 _).symm
  ·rw [List.mem_map] at hx
   obtain ⟨s, hs, rfl⟩ := hx
   rw [zf]
   exact hwz s (List.mem_of_mem_take hs)
end Go.Proofs.YtnhfaincdabdkaaGreatDoor
namespace Go.Proofs.YtnhfaincdabdkaaGreatDoor.laying
open Go.RowKit
theorem own : ownKnob Tryz.prog.godebug = none := by kernel_rfl
theorem laidOut : laidOutB Tryz.prog = true := by kernel_rfl
mutual
def flat : DataW Unit -> List Value
 | .lit (.int k n) => [.int k n]
 | .agg ps => zrh ps
 | _ => []
def zrh : List (DataW Unit) -> List Value
 | [] => []
 | d :: r => flat d ++ zrh r
end
def zae (l : List Value) : Obj -> Obj
 | .cells _ t frozen => .cells l.toArray t frozen
 | o => o
noncomputable def laidWorld (os : Os) : World :=
 { World.holding Tryz.prog os ⟨#[], #[], []⟩ with
   heap := ((World.holding Tryz.prog os ⟨#[], #[], []⟩).heap.modify 3 (zae (flat Rows.laid_unicode_utf8_acceptRanges))).modify 2 (zae (flat Rows.laid_unicode_utf8_first)) }
end Go.Proofs.YtnhfaincdabdkaaGreatDoor.laying
namespace Go.Proofs.YtnhfaincdabdkaaGreatDoor.laying
open Go.RowKit
noncomputable def laidWorldP (os : Os) : World :=
 { World.holding Tryz.prog os ⟨#[], #[], []⟩ with
   heap := (((((World.holding Tryz.prog os ⟨#[], #[], []⟩).heap.modify 3 (zae (flat Rows.laid_unicode_utf8_acceptRanges))).modify 2 (zae (flat Rows.laid_unicode_utf8_first))).modify 1 (zae (flat Rows.laid_internal_strconv_uint64pow10))).modify 4 (zae (flat Rows.laid_math_bits_deBruijn32tab))).modify 5 (zae (flat Rows.laid_math_bits_deBruijn64tab)) }
end Go.Proofs.YtnhfaincdabdkaaGreatDoor.laying
namespace Go.Proofs.YtnhfaincdabdkaaGreatDoor
open Go.RowKit
theorem zr3 : laidOutB Tryz.prog = true := by kernel_rfl
theorem zst : mapsRowed Tryz.prog = true := by kernel_rfl
end Go.Proofs.YtnhfaincdabdkaaGreatDoor
