/-
  Lemmas for the law.
-/
import Derived.Test.YtnhfaincdabdkaaGreatDoorC31x23
import Derived.Test.YtnhfaincdabdkaaGreatDoorC31x19
import Derived.Test.YtnhfaincdabdkaaGreatDoorC31x44
import Derived.Test.YtnhfaincdabdkaaGreatDoorC31x48
import Derived.Test.YtnhfaincdabdkaaGreatDoorC31x16
import Derived.Test.YtnhfaincdabdkaaGreatDoorC31x40
import Derived.Test.YtnhfaincdabdkaaGreatDoorC31x02
import Derived.Test.YtnhfaincdabdkaaGreatDoorCards
import Derived.Test.YtnhfaincdabdkaaGreatDoorTie
import Derived.Test.YtnhfaincdabdkaaGreatDoorRows
import Derived.ProofKit
import Derived.SliceStrings
import Derived.OpenShut
import Derived.Deep.DeepHandedRow
import Derived.Lib.LaidTab
import Derived.JoinedOf
set_option linter.all false
set_option maxRecDepth 100000
set_option maxHeartbeats 6400000
namespace Go.Proofs.YtnhfaincdabdkaaGreatDoor
open Go.RowKit
theorem zon (n : Int) (v v' : Value) (l : List V.Itv) (w : World) (hv : Itvs w v l) (hv' : Itvs w v' l) (hl : l.length ≤ maxLen) :
  Calls Tryz.prog 79 #[setV n v, setV n v'] w fun e w' => e = .returned (.bool true) /\ Below w.heap.size w w' := by
 obtain ⟨va, vc, rfl⟩ := hv.slice
 obtain ⟨va', vc', rfl⟩ := hv'.slice
 obtain ⟨hb, h0, h1⟩ := zc3 (w := w) (.cells #[.int .i64 n, .slice va l.length vc] 48) (.cells #[.int .i64 n, .slice va' l.length vc'] 48)
 have HB := zuy hb
 have c0 := (h0 0).trans (World.cell?_alloc_new ..)
 have c1 := (h0 1).trans (World.cell?_alloc_new ..)
 have d0 := (h1 0).trans (World.cell?_alloc_new ..)
 have d1 := (h1 1).trans (World.cell?_alloc_new ..)
 simp only [List.getElem?_toArray, List.getElem?_cons_zero, List.getElem?_cons_succ] at c0 c1 d0 d1
 have HV := zuy (hv.below hb)
 have HV' := zuy (hv'.below hb)
 unfold maxLen at hl
 clear hb h0 h1 hv hv'
 unfold setV
 go_enter Tryz.func79, Tryz.ntmps79
 go_wp2_with fail
 generalize (w.alloc (.cells #[.int .i64 n, .slice va l.length vc] 48)).alloc (.cells #[.int .i64 n, .slice va' l.length vc'] 48) = w0 at *
 go_loopw [5] (fun iv W => ∃ k : Nat, k ≤ l.length /\ iv = .int .i64 k /\ Below w0.heap.size w0 W) (fun iv _ => l.length - (intOf iv).toNat)
 case atStart => exact ⟨0, Nat.zero_le _, rfl, zu1 _ _⟩
 case round =>
  obtain ⟨k, hk, rfl, hbr⟩ := hrel
  have HBR := zuy hbr
  replace c1 := zb hbr c1
  replace d1 := zb hbr d1
  clear hbr
  by_cases hlt : k < l.length
  ·obtain ⟨b, off, rfl, hb0, hx⟩ := HV.out.at k hlt
   obtain ⟨b', off', rfl, hb0', hy⟩ := HV'.out.at k hlt
   replace hx := hx.below hb0 HBR.out
   replace hy := hy.below hb0' HBR.out
   have i1 : (0 : Int) ≤ (k : Int) := by omega
   have i2 : (k : Int) < (l.length : Int) := by omega
   have wr1 : IntKind.i64.wrap ((k : Int) + 1) = (k : Int) + 1 := IntWalk.i64_in _ (by omega)
   generalize l[k] = x at *
   unfold zbq at hx hy
   clear HV HV' c0 d0
   go_wp2_with fail
   refine wp_region_held_drew (S := (fun W' => W'.cell? ⟨w.heap.size, 1, none⟩ = some (.slice (some ⟨b, off, none⟩) l.length vc) /\ W'.cell? ⟨w.heap.size + 1, 1, none⟩ = some (.slice (some ⟨b', off', none⟩) l.length vc') /\ W'.cell? ⟨b, off + k * 4, none⟩ = some (.string ⟨x.lo.toArray⟩) /\ W'.cell? ⟨b, off + k * 4 + 1, none⟩ = some (.int .i64 x.lk) /\ W'.cell? ⟨b, off + k * 4 + 2, none⟩ = some (.string ⟨x.hi.toArray⟩) /\ W'.cell? ⟨b, off + k * 4 + 3, none⟩ = some (.int .i64 x.hk) /\ W'.cell? ⟨b', off' + k * 4, none⟩ = some (.string ⟨x.lo.toArray⟩) /\ W'.cell? ⟨b', off' + k * 4 + 1, none⟩ = some (.int .i64 x.lk) /\ W'.cell? ⟨b', off' + k * 4 + 2, none⟩ = some (.string ⟨x.hi.toArray⟩) /\ W'.cell? ⟨b', off' + k * 4 + 3, none⟩ = some (.int .i64 x.hk))) (by kernel_rfl) (by (try dsimp only); (try simp only [World.cell?_drew]); exact ⟨c1, d1, hx.1, hx.2.1, hx.2.2.1, hx.2.2.2, hy.1, hy.2.1, hy.2.2.1, hy.2.2.2⟩) (fun hHeld => ?_)
   refine tk 0 ?_
   refine tk 1 ?_
   refine tk 2 ?_
   refine tk 3 ?_
   refine tk 4 ?_
   refine tk 5 ?_
   refine tk 6 ?_
   refine tk 7 ?_
   refine tk 8 ?_
   refine tk 9 ?_
   refine tk 10 ?_
   refine wpAnyH_done (by kernel_rfl) ?_ _
   go_wp2
   go_roundw
   case rel => exact ⟨k + 1, by omega, by go_num, HBR.out.drew⟩
   case measure => simp [intOf]; omega
  ·obtain rfl : k = l.length := by omega
   go_wp2
   go_ret
   exact ⟨zc rfl, HB.out.trans (HBR.out.mono HB.out.size)⟩
theorem zl7 (x : V.Adv) (v v' : Value) (w : World) (hv : Affs w v x.aff) (hv' : Affs w v' x.aff) (hl : x.aff.length ≤ maxLen) :
  Calls Tryz.prog 29 #[advV x v, advV x v'] w fun e w' => e = .returned (.bool true) /\ Below w.heap.size w w' := by
 obtain ⟨pa, pc, rfl⟩ := hv.slice
 obtain ⟨pa', pc', rfl⟩ := hv'.slice
 obtain ⟨hb, h0, h1⟩ := zc3 (w := w) (.cells #[.string ⟨x.id.toArray⟩, .int .i64 x.rev, .int .i64 x.sev, .slice pa x.aff.length pc] 41) (.cells #[.string ⟨x.id.toArray⟩, .int .i64 x.rev, .int .i64 x.sev, .slice pa' x.aff.length pc'] 41)
 have HB := zuy hb
 have c0 := (h0 0).trans (World.cell?_alloc_new ..)
 have c1 := (h0 1).trans (World.cell?_alloc_new ..)
 have c2 := (h0 2).trans (World.cell?_alloc_new ..)
 have c3 := (h0 3).trans (World.cell?_alloc_new ..)
 have d0 := (h1 0).trans (World.cell?_alloc_new ..)
 have d1 := (h1 1).trans (World.cell?_alloc_new ..)
 have d2 := (h1 2).trans (World.cell?_alloc_new ..)
 have d3 := (h1 3).trans (World.cell?_alloc_new ..)
 simp only [List.getElem?_toArray, List.getElem?_cons_zero, List.getElem?_cons_succ] at c0 c1 c2 c3 d0 d1 d2 d3
 have HV := zuy (hv.below hb)
 have HV' := zuy (hv'.below hb)
 unfold maxLen at hl
 clear hb h0 h1 hv hv'
 unfold advV
 go_enter Tryz.func29, Tryz.ntmps29
 go_wp2_with fail
 generalize (w.alloc (.cells #[.string ⟨x.id.toArray⟩, .int .i64 x.rev, .int .i64 x.sev, .slice pa x.aff.length pc] 41)).alloc (.cells #[.string ⟨x.id.toArray⟩, .int .i64 x.rev, .int .i64 x.sev, .slice pa' x.aff.length pc'] 41) = w0 at *
 clear c0 c1 c2 d0 d1 d2
 go_loopw [5] (fun iv W => ∃ k : Nat, k ≤ x.aff.length /\ iv = .int .i64 k /\ Below w0.heap.size w0 W) (fun iv _ => x.aff.length - (intOf iv).toNat)
 case atStart => exact ⟨0, Nat.zero_le _, rfl, zu1 _ _⟩
 case round =>
  obtain ⟨k, hk, rfl, hbr⟩ := hrel
  have HBR := zuy hbr
  replace c3 := zb hbr c3
  replace d3 := zb hbr d3
  clear hbr
  by_cases hlt : k < x.aff.length
  ·obtain ⟨hwf, b, off, ua, uc, rfl, hb0, hx⟩ := HV.out.at k hlt
   obtain ⟨_, b', off', ua', uc', rfl, hb0', hy⟩ := HV'.out.at k hlt
   have HA := zuy (hx.below HBR.out)
   have HA' := zuy (hy.below HBR.out)
   have HW := zuy hwf
   have i1 : (0 : Int) ≤ (k : Int) := by omega
   have i2 : (k : Int) < (x.aff.length : Int) := by omega
   have wr1 : IntKind.i64.wrap ((k : Int) + 1) = (k : Int) + 1 := IntWalk.i64_in _ (by omega)
   clear hx hy hwf HV HV'
   generalize x.aff[k] = a at *
   go_wp2_with fail
   refine wp_region_held_drew (S := (fun W' => Below wr.heap.size wr W' /\ W'.cell? ⟨w.heap.size, 3, none⟩ = some (.slice (some ⟨b, off, none⟩) x.aff.length pc) /\ W'.cell? ⟨w.heap.size + 1, 3, none⟩ = some (.slice (some ⟨b', off', none⟩) x.aff.length pc') /\ W'.cell? ⟨b, off + k * 4, none⟩ = some (.int .i64 a.sch) /\ W'.cell? ⟨b, off + k * 4 + 1, none⟩ = some (.string ⟨a.name.toArray⟩) /\ W'.cell? ⟨b, off + k * 4 + 2, none⟩ = some (.int .i64 a.rs) /\ W'.cell? ⟨b, off + k * 4 + 3, none⟩ = some (.slice ua a.its.length uc) /\ W'.cell? ⟨b', off' + k * 4, none⟩ = some (.int .i64 a.sch) /\ W'.cell? ⟨b', off' + k * 4 + 1, none⟩ = some (.string ⟨a.name.toArray⟩) /\ W'.cell? ⟨b', off' + k * 4 + 2, none⟩ = some (.int .i64 a.rs) /\ W'.cell? ⟨b', off' + k * 4 + 3, none⟩ = some (.slice ua' a.its.length uc'))) (by kernel_rfl) (by (try dsimp only); exact ⟨(zu1 _ _).drew, zb (zu1 _ _).drew c3, zb (zu1 _ _).drew d3, zb (zu1 _ _).drew HA.out.c0, zb (zu1 _ _).drew HA.out.c1, zb (zu1 _ _).drew HA.out.c2, zb (zu1 _ _).drew HA.out.c3, zb (zu1 _ _).drew HA'.out.c0, zb (zu1 _ _).drew HA'.out.c1, zb (zu1 _ _).drew HA'.out.c2, zb (zu1 _ _).drew HA'.out.c3⟩) (fun hHeld => ?_)
   refine tk 0 ?_
   refine tk 1 ?_
   refine tk 2 ?_
   refine tk 3 ?_
   refine tk 4 ?_
   refine tk 5 ?_
   refine tk 6 ?_
   refine tk 7 ?_
   refine tk 8 ?_
   refine tk 9 ?_
   refine tk 10 ?_
   refine tk 11 ?_
   refine tk 12 ?_
   refine tk 13 ?_
   refine tk 14 ?_
   refine tk 15 ?_
   refine tk 16 ?_
   refine tk 17 ?_
   refine tk 18 ?_
   refine tk 19 ?_
   refine tk 20 ?_
   refine tk 21 ?_
   refine tk 22 ?_
   refine tk 23 ?_
   refine tk 24 ?_
   refine tk 25 ?_
   refine tk 26 ?_
   refine tk 27 ?_
   refine tk 28 ?_
   refine tk 29 ?_
   refine tk 30 ?_
   refine tk 31 ?_
   refine tk 32 ?_
   refine tk 33 ?_
   refine tk 34 ?_
   refine tk 35 ?_
   refine tk 36 ?_
   refine tk 37 ?_
   refine tk 38 ?_
   refine tk 39 ?_
   refine tk 40 ?_
   refine rd 41 fun K hK => ?_
   go_simp
   refine (zon a.rs (.slice ua a.its.length uc) (.slice ua' a.its.length uc') a.its _ (HA.out.its.below (show Below wr.heap.size wr _ from (by first | assumption | exact And.left (by assumption)))) (HA'.out.its.below (show Below wr.heap.size wr _ from (by first | assumption | exact And.left (by assumption)))) HW.out.len).mono ?_
   rintro e wr41 ⟨rfl, hbr41⟩
   try dsimp only
   refine hK.out _ _ ?_ (fun hHeld => nx ?_)
   ·(try dsimp only); go_split_ands; exact ⟨Below.trans (by assumption) (hbr41.mono (Below.size (by assumption))), zu4 hbr41, zu4 hbr41, zu4 hbr41, zu4 hbr41, zu4 hbr41, zu4 hbr41, zu4 hbr41, zu4 hbr41, zu4 hbr41, zu4 hbr41⟩
   clear hK K
   refine tk 42 ?_
   refine tk 43 ?_
   refine wpAnyH_done (by kernel_rfl) ?_ _
   have HBZ := zuy (HBR.out.trans (hHeld.1.mono HBR.out.size))
   clear hHeld
   go_wp2
   go_roundw
   case rel => exact ⟨k + 1, by omega, by go_num, HBZ.out⟩
   case measure => simp [intOf]; omega
  ·obtain rfl : k = x.aff.length := by omega
   go_wp2
   go_ret
   exact ⟨zc rfl, HB.out.trans (HBR.out.mono HB.out.size)⟩
open Go.RowKit
theorem V.decV_facts (bs : V.Bs) : (V.decV bs).1.id.length ≤ maxLen /\ (V.decV bs).1.aff.length ≤ maxLen := by
 obtain ⟨⟨ls, c⟩, h⟩ : ∃ p, V.decP bs = p := ⟨_, rfl⟩
 have h1 := V.decP_words (bs := bs)
 have h2 := V.decP_len bs
 rw [h] at h1 h2
 have hz : (V.zV).id.length ≤ maxLen /\ (V.zV).aff.length ≤ maxLen := by decide
 by_cases hc : c = 0
 ·subst hc
  cases hr : V.jk ls with
  | none => rw [V.zhc h hr]; exact hz
  | some x =>
   rw [V.zer h hr]
   split
   ·exact V.readV_facts h1 h2 hr
   ·exact hz
 ·rw [V.zkc h hc]; exact hz
theorem zfj (vb : Value) (bs : V.Bs) (w : World) (hm : zg w) (hp : zc9 w) (hv : yt w vb bs) (hl : bs.length ≤ maxLen) :
  Calls Tryz.prog 6 #[vb] w fun e w' => e = .returned (.bool true) /\ Below w.heap.size w w' := by
 obtain ⟨ba, bc, hve, hjunk⟩ := hv
 have HV := zuy (show yt w vb bs from ⟨ba, bc, hve, hjunk⟩)
 subst hve
 clear hjunk
 have HM := zuy hm
 have HP := zuy hp
 have HL := zuy hl
 clear hm hp hl
 by_cases hbig : 4000 < bs.length
 ·have hb' : (4000 : Int) < (bs.length : Int) := by omega
  go_enter Tryz.func6, Tryz.ntmps6
  go_wp2_with fail
  refine (zhg w HM.out HP.out).mono ?_
  rintro e w1 ⟨rfl, hb1⟩
  have HB1 := zuy hb1
  go_wp2
  go_ret
  exact ⟨zc rfl, HB1.out⟩
 have hb' : ¬ (4000 : Int) < (bs.length : Int) := by omega
 have HF := zuy (V.decV_facts bs)
 go_enter Tryz.func6, Tryz.ntmps6
 go_wp2_with fail
 refine (zet (.slice ba bs.length bc) bs w HM.out HP.out HV.out HL.out).mono ?_
 rintro e w1 ⟨v1, rfl, hv1, hb1⟩
 obtain ⟨⟨x, c⟩, hD⟩ : ∃ D, V.decV bs = D := ⟨_, rfl⟩
 rw [hD] at hv1 HF ⊢
 simp only at hv1 HF ⊢
 have HDD := zuy hD
 obtain ⟨pa, pc, rfl⟩ := hv1.slice
 obtain ⟨hb2, c0, c1, c2, c3⟩ := za2 x (.slice pa x.aff.length pc) w1
 have hz2 : w1.heap.size < (w1.alloc (.cells #[.string ⟨x.id.toArray⟩, .int .i64 x.rev, .int .i64 x.sev, .slice pa x.aff.length pc] 41)).heap.size := by simp
 have HV2 := zuy (hv1.below hb2)
 have HB2 := zuy (hb1.trans (hb2.mono hb1.size))
 have HVB := zuy (HV.out.below HB2.out)
 clear hD hb1 hb2 hv1 HV
 unfold advV
 go_wp2_with fail
 generalize w1.alloc (.cells #[.string ⟨x.id.toArray⟩, .int .i64 x.rev, .int .i64 x.sev, .slice pa x.aff.length pc] 41) = w2 at *
 generalize w1.heap.size = X1 at *
 refine (zjg (.slice ba bs.length bc) bs w2 (HM.out.below HB2.out) (HP.out.below HB2.out) HVB.out HL.out).mono ?_
 rintro e w3 ⟨v3, rfl, hv3, hb3⟩
 rw [HDD.out] at hv3 ⊢
 simp only at hv3 ⊢
 obtain ⟨pa3, pc3, rfl⟩ := hv3.slice
 obtain ⟨hb4, d0, d1, d2, d3⟩ := za2 x (.slice pa3 x.aff.length pc3) w3
 have hb24 := hb3.trans (hb4.mono hb3.size)
 replace c0 := zb hb24 c0
 replace c1 := zb hb24 c1
 replace c2 := zb hb24 c2
 replace c3 := zb hb24 c3
 have HV4 := zuy (HV2.out.below hb24)
 have HW4 := zuy (hv3.below hb4)
 have HB4 := zuz HB2 hb24
 clear hb3 hb4 hb24 hv3 HV2 HVB HB2 HDD hz2
 unfold advV
 go_wp2_with fail
 generalize w3.alloc (.cells #[.string ⟨x.id.toArray⟩, .int .i64 x.rev, .int .i64 x.sev, .slice pa3 x.aff.length pc3] 41) = w4 at *
 refine (zl7 x (.slice pa x.aff.length pc) (.slice pa3 x.aff.length pc3) w4 HV4.out HW4.out HF.out.2).mono ?_
 rintro e w5 ⟨rfl, hb5⟩
 have HB5 := zuz HB4 hb5
 clear hb5 HB4 HV4 HW4 c0 c1 c2 c3 d0 d1 d2 d3
 go_wp2_with fail
 refine (zhg w5 (HM.out.below HB5.out) (HP.out.below HB5.out)).mono ?_
 rintro e w6 ⟨rfl, hb6⟩
 have HB6 := zuz HB5 hb6
 clear hb6
 go_wp2
 go_ret
 exact ⟨zc rfl, HB6.out⟩
open Go.ChangeShapes Go.WideShapes Go.ChangeAt Go.RowKit
open Go.ChangeShapes Go.WideShapes Go.ChangeAt Go.RowKit
theorem cellsU8 : Tryz.prog.cellsOf 5 = 1 := by kernel_rfl
theorem zrw {H : Type} {enc : TypeId × Value -> H} {W : World} {base : Nat} {v : Value} {d : DataW H} {p : List MemPlace} (hv : Value.okWide Tryz.prog W .any base 22 v)
  (h : DataW.Trod enc Tryz.prog W 0 (fun _ => true) true 22 v d p) : ∃ bs : V.Bs, yt W v bs /\ bs.length ≤ maxLen := by
 obtain ⟨a0, len, cap, rfl⟩ := okWide_slice Tryz.underlying22 hv
 obtain ⟨fuel0, hf⟩ := h
 rcases open_ints Tryz.underlying22 Tryz.underlying5 cellsU8 hf with ⟨hcs, hx⟩ | ⟨a, len', cap', zs, hcs, _, hl, hm, hz, hx, hcell, hwz⟩
 ·simp [Value.cells] at hcs
  obtain ⟨rfl, rfl, rfl⟩ := hcs
  exact ⟨[], ⟨none, 0, rfl, zu0 _, fun j hj => by simp at hj⟩, Nat.zero_le _⟩
 ·simp [Value.cells] at hcs
  obtain ⟨rfl, rfl, rfl⟩ := hcs
  simp only [if_true] at hz
  obtain ⟨b, off, spot⟩ := a
  have hlen : ((zs.take len).map fun n => UInt8.ofNat n.toNat).length = len := by simp; omega
  refine ⟨(zs.take len).map fun n => UInt8.ofNat n.toNat, ?_, by rw [hlen]; omega⟩
  by_cases h0 : 0 < len
  ·have hspot : spot = none := by simpa [Addr.add] using World.cell?_spot (hcell 0 (by omega))
   subst hspot
   refine ⟨some ⟨b, off, none⟩, cap, by rw [hlen], by rw [hlen]; exact hl, fun j hj => ?_⟩
   rw [hlen] at hj
   have hc := hcell j (by omega)
   rw [add_plain] at hc
   refine ⟨b, off, rfl, World.block_lt_of_cell? _ _ hc, ?_⟩
   rw [hc]
   have hb := range_u8 hwz j
   have e : zs.getD j 0 = zs[j]'(by omega) := by simp [List.getD, List.getElem?_eq_getElem (show j < zs.length by omega)]
   rw [e]
   rw [List.getElem?_eq_getElem (show j < zs.length by omega), Option.getD_some] at hb
   simp only [List.getElem_map, List.getElem_take, UInt8.toNat_ofNat']
   congr 2
   omega
  ·obtain rfl : len = 0 := by omega
   refine ⟨_, cap, by rw [hlen], by rw [hlen]; exact hl, fun j hj => ?_⟩
   rw [hlen] at hj
   omega
end Go.Proofs.YtnhfaincdabdkaaGreatDoor
namespace Go.Proofs.YtnhfaincdabdkaaGreatDoor.laying
open Go.RowKit
theorem own : ownKnob Tryz.prog.godebug = none := by kernel_rfl
theorem laidOut : laidOutB Tryz.prog = true := by kernel_rfl
mutual
def flat : DataW Unit -> List Value
 | .lit (.int k n) => [.int k n]
 | .agg ps => ztg ps
 | _ => []
def ztg : List (DataW Unit) -> List Value
 | [] => []
 | d :: r => flat d ++ ztg r
end
def zdo (l : List Value) : Obj -> Obj
 | .cells _ t frozen => .cells l.toArray t frozen
 | o => o
end Go.Proofs.YtnhfaincdabdkaaGreatDoor.laying
namespace Go.Proofs.YtnhfaincdabdkaaGreatDoor.laying
open Go.RowKit
noncomputable def laidWorldP (os : Os) : World :=
 { World.holding Tryz.prog os ⟨#[], #[], []⟩ with
   heap := (((((World.holding Tryz.prog os ⟨#[], #[], []⟩).heap.modify 3 (zdo (flat Rows.laid_unicode_utf8_acceptRanges))).modify 2 (zdo (flat Rows.laid_unicode_utf8_first))).modify 1 (zdo (flat Rows.laid_internal_strconv_uint64pow10))).modify 4 (zdo (flat Rows.laid_math_bits_deBruijn32tab))).modify 5 (zdo (flat Rows.laid_math_bits_deBruijn64tab)) }
end Go.Proofs.YtnhfaincdabdkaaGreatDoor.laying
namespace Go.Proofs.YtnhfaincdabdkaaGreatDoor
open Go.RowKit
theorem zt2 : laidOutB Tryz.prog = true := by kernel_rfl
theorem zul : mapsRowed Tryz.prog = true := by kernel_rfl
end Go.Proofs.YtnhfaincdabdkaaGreatDoor
namespace Go.Proofs.YtnhfaincdabdkaaGreatDoor.advisoryDecode
open Go.RowKit
theorem zog : (Rows.advisoryDecodeRow.inPlace == Tryz.prog.inPlace 6) = true := by kernel_rfl
theorem zie : (Rows.advisoryDecodeRow.unfollowed == Tryz.prog.unfollowed 6) = true := by kernel_rfl
theorem zlz : (Rows.advisoryDecodeRow.recurses == Tryz.prog.recurses 6) = true := by kernel_rfl
theorem zsa : (Rows.advisoryDecodeRow.named == Tryz.prog.varsNamed 6) = true := by kernel_rfl
theorem closed : joinedFacts Tryz.prog 6 Tryz.f6 (OpenSpec.ofChange Rows.advisoryDecodeSpec).bare Rows.advisoryDecodeRow = true := by
 unfold joinedFacts
 simp only [zt2, zul, zog, zie, zlz, zsa, Bool.and_true]
 kernel_rfl
end Go.Proofs.YtnhfaincdabdkaaGreatDoor.advisoryDecode
