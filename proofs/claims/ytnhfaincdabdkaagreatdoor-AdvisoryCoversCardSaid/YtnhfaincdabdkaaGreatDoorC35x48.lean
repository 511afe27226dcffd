/-
  Lemmas for the law.
-/
import Derived.Test.YtnhfaincdabdkaaGreatDoorC35x43
import Derived.Test.YtnhfaincdabdkaaGreatDoorC35x46
import Derived.Test.YtnhfaincdabdkaaGreatDoorC35x47
import Derived.Test.YtnhfaincdabdkaaGreatDoorC35x12
import Derived.Test.YtnhfaincdabdkaaGreatDoorC35x02
import Derived.Test.YtnhfaincdabdkaaGreatDoorCards
import Derived.Test.YtnhfaincdabdkaaGreatDoorTie
import Derived.Test.YtnhfaincdabdkaaGreatDoorRows
import Derived.ProofKit
import Derived.SliceStrings
import Derived.OpenShut
import Derived.Deep.DeepHandedRow
import Derived.Lib.LaidTab
import Derived.JoinedOf
set_option linter.all false
set_option maxRecDepth 100000
set_option maxHeartbeats 12800000
namespace Go.Proofs.YtnhfaincdabdkaaGreatDoor
open Go.RowKit
namespace V
theorem ztr (p : Int × Bs) : ¬ pkC p p < 0 := fun h => by
 have h2 := zmc h h
 rw [zrm] at h
 rcases h with h | ⟨_, h⟩
 ·omega
 ·rw [yp] at h; omega
theorem zsw : ∀ {l : List Aff}, Asc (l.map pk) -> ∀ {a b : Aff}, a ∈ l -> b ∈ l -> pk a = pk b -> a = b
 | [], _, _, _, h, _, _ => by simp at h
 | x :: l, ha, a, b, h1, h2, he => by
  unfold Asc at ha
  rw [List.map_cons, List.pairwise_cons] at ha
  rcases List.mem_cons.1 h1 with e1 | h3
  ·rcases List.mem_cons.1 h2 with e2 | h4
   ·rw [e1, e2]
   ·have := ha.1 (pk b) (List.mem_map_of_mem h4)
    rw [← e1, he] at this
    exact absurd this (ztr _)
  ·rcases List.mem_cons.1 h2 with e2 | h4
   ·have := ha.1 (pk a) (List.mem_map_of_mem h3)
    rw [← e2, he] at this
    exact absurd this (ztr _)
   ·exact zsw ha.2 h3 h4 he
def hitA (n : Int) (s v : Bs) (a : Aff) : Bool := xx n s a && zu a.rs a.its v
theorem zpz {n : Int} {s : Bs} {a : Aff} (h : xx n s a = true) : pk a = (n, s) := by
 unfold xx at h
 simp only [Bool.and_eq_true, decide_eq_true_eq, beq_iff_eq] at h
 exact Prod.ext h.1 h.2
theorem cov_made {x : Adv} (hx : MadeV x) (n : Int) (s v : Bs) : covP x n s v = x.aff.any (hitA n s v) := by
 unfold covP
 cases h : x.aff.find? (xx n s) with
 | none =>
  rw [List.find?_eq_none] at h
  symm
  rw [List.any_eq_false]
  intro a ha
  unfold hitA
  have := h a ha
  simp only [Bool.not_eq_true] at this
  rw [this]; simp
 | some a =>
  have h1 := List.find?_some h
  have h2 := List.mem_of_find?_eq_some h
  simp only [hx.ok, Bool.and_true]
  cases hc : zu a.rs a.its v
  ·symm
   rw [List.any_eq_false]
   intro b hb
   unfold hitA
   cases hp : xx n s b
   ·simp
   ·have : b = a := zsw hx.asc hb h2 (by rw [zpz hp, zpz h1])
    rw [this, hc]; simp
  ·symm
   rw [List.any_eq_true]
   exact ⟨a, h2, by unfold hitA; rw [h1, hc]; rfl⟩
theorem zul {x : Adv} (hx : MadeV x) (n : Int) (s v : Bs) : zeu x n s v = x.aff.any (hitA n s v) := by
 unfold zeu
 rw [hx.ok, Bool.true_and]
 rfl
theorem hit_step {l : List Aff} {k : Nat} (h : k < l.length) (n : Int) (s v : Bs) : (l.take (k + 1)).any (hitA n s v) = ((l.take k).any (hitA n s v) || hitA n s v l[k]) := by
 rw [List.take_succ_eq_append_getElem h, List.any_append]
 simp
end V
theorem zyv {P : Prop} (h : P := by
 go_wp2
 go_roundw
 case rel => exact ⟨k + 1, by omega, by go_num, by rw [HST.out, HHT.out]; rfl, HBY.out⟩
 case measure => simp [intOf]; omega) : P := h
theorem zfc (a : Option Addr) (m cap : Nat) (sc : Int) (s2 s3 : ByteArray) (raw : Bool) (w : World) (hm : zi w) (hp : ze7 w) (ht : Nums w a m) (hmc : m ≤ cap) (_h1 : (Lit.int .i64 sc).wf = true) (_h2 : s2.size ≤ maxLen) (_h3 : s3.size ≤ maxLen) :
  Calls Tryz.prog 9 #[.slice a m cap, .int .i64 sc, .string s2, .string s3, .bool raw] w fun e w' => e = .returned (.bool true) /\ Below w.heap.size w w' := by
 have HM := zvb hm
 have HP := zvb hp
 have HT := zvb (And.intro ht hmc)
 clear hm hp ht hmc
 go_enter Tryz.func9, Tryz.ntmps9
 go_wp2_with fail
 refine (zuy a m cap 70 w HT.out.1 HT.out.2 (by decide)).mono ?_
 rintro e w1 ⟨rfl, ht1, hb1, hz1⟩
 have HT1 := zvb ht1
 have HB1 := zvb hb1
 clear ht1 hb1 hz1
 go_wp2_with fail
 refine (zow w.heap.size 0 w1 (HM.out.below HB1.out) HT1.out (by decide)).mono ?_
 rintro e w2 ⟨x, u, rfl, hx, hu, ht2, hg2⟩
 have HB2 := zvb (HB1.out.trans (zdi hg2 (zvd _) HB1.out.size))
 have HL : Hid (x.id.length ≤ maxLen /\ x.aff.length ≤ maxLen) := zvb (by have := hx.idl; have := hx.len; unfold maxLen; omega)
 have HL3 := zvb hx.len
 have HCV := zvb (V.cov_made hx)
 have HRV := zvb (V.zul hx)
 obtain ⟨pa, pc, rfl⟩ := (hu w2 (World.grownBy.refl _ _)).slice
 obtain ⟨hb3, c0, c1, c2, c3⟩ := zby x (.slice pa x.aff.length pc) w2
 have HB3 := zvc HB2 hb3
 have HU3 := zvb hu
 have HG3 := zvb (qp hb3 (some w.heap.size))
 have HT3 := zvb (ht2.below hb3)
 have HX3 : Hid (w.heap.size < w2.heap.size) := zvb ht2.lt
 clear hx hu ht2 hg2 hb3 HT1 HB1
 unfold advV
 obtain ⟨s, hs2⟩ : ∃ s : V.Bs, s2 = ⟨s.toArray⟩ := ⟨s2.data.toList, rfl⟩
 obtain ⟨v, hs3⟩ : ∃ v : V.Bs, s3 = ⟨v.toArray⟩ := ⟨s3.data.toList, rfl⟩
 subst hs2 hs3
 have HAW : Hid (∀ W, Below w.heap.size w W -> Calls Tryz.prog 27 #[] W fun e w' => e = .returned (.bool true) /\ Below W.heap.size W w') := zvb (fun W h => zpe W (HM.out.below h) (HP.out.below h))
 rcases raw with _ | _
 case' false =>
  go_wp2_with fail
  generalize w2.alloc (.cells #[.string ⟨x.id.toArray⟩, .int .i64 x.rev, .int .i64 x.sev, .slice pa x.aff.length pc] 41) = w3 at *
  refine (zb6 w.heap.size _ 3 w3 HT3.out (by decide) (by decide) (by decide)).mono ?_
  rintro e w4 ⟨r, hr, rfl, ht4, hg4⟩
  have hk4 : ∀ o v, w3.cell? ⟨w2.heap.size, o, none⟩ = some v -> w4.cell? ⟨w2.heap.size, o, none⟩ = some v := fun o v h => qe hg4 (by intro e; injection e with e; have := HX3.out; omega) h
  replace c0 := hk4 _ _ c0
  replace c1 := hk4 _ _ c1
  replace c2 := hk4 _ _ c2
  replace c3 := hk4 _ _ c3
  have HG4 := zvb hg4
  have HT4 := zvb ht4
  have e1 : IntKind.i64.wrap (1 + (r : Int)) = 1 + (r : Int) := IntWalk.i64_in _ (by omega)
  have HSC : Hid (V.scheme (1 + (r : Int)) = true) := zvb (by
    have h3 : r = 0 ∨ r = 1 ∨ r = 2 := by omega
    rcases h3 with rfl | rfl | rfl <;> rfl)
  clear hr ht4 hg4 hk4 HT3
  go_wp2_with fail
  refine (zhj w4).mono ?_
  rintro e wb ⟨rfl, hwb⟩
  have hbb : Below w4.heap.size w4 wb := by rw [hwb]; exact (zve _ w4).alloc (zvd _) _
  have hcb : ∀ j, j < 4 -> wb.cell? ⟨w4.heap.size, 0 + j, none⟩ = some (.string ⟨(wm.getD j []).toArray⟩) := fun j hj => by
   rw [hwb, World.cell?_alloc_new, Nat.zero_add]
   have h4 : j = 0 ∨ j = 1 ∨ j = 2 ∨ j = 3 := by omega
   rcases h4 with rfl | rfl | rfl | rfl <;> rfl
  clear hwb
  go_wp2_with fail
  refine (za6 w.heap.size _ wb ⟨w4.heap.size, 0, none⟩ 4 wm (HT4.out.below hbb) (by decide) (by decide) (by decide) (by have := HT4.out.lt; simp; omega) rfl hcb).mono ?_
  rintro e wc ⟨s, hnm, rfl, htc, hgc⟩
  have hkc : ∀ o v, w4.cell? ⟨w2.heap.size, o, none⟩ = some v -> wc.cell? ⟨w2.heap.size, o, none⟩ = some v := fun o v h => qe hgc (by intro e; injection e with e; have := HX3.out; omega) (zd hbb h)
  replace c0 := hkc _ _ c0
  replace c1 := hkc _ _ c1
  replace c2 := hkc _ _ c2
  replace c3 := hkc _ _ c3
  have HGC := zvb ((HG4.out.trans (qp hbb (some w.heap.size))).trans hgc)
  have HTC := zvb htc
  have HSL := zvb (zgl hnm).2
  clear hnm htc hgc hkc hbb hcb HT4 HG4
  go_wp2_with fail
  refine (zdn w.heap.size _ (1 + (r : Int)) wc HTC.out (by decide) HSC.out).mono ?_
  rintro e wq ⟨v, hver, rfl, htq, hgq⟩
  have hkq : ∀ o v, wc.cell? ⟨w2.heap.size, o, none⟩ = some v -> wq.cell? ⟨w2.heap.size, o, none⟩ = some v := fun o v h => qe hgq (by intro e; injection e with e; have := HX3.out; omega) h
  replace c0 := hkq _ _ c0
  replace c1 := hkq _ _ c1
  replace c2 := hkq _ _ c2
  replace c3 := hkq _ _ c3
  have hgA := ((HG3.out.trans (HGC.out)).trans hgq)
  have HBQ := zvb (HB2.out.trans (zdi hgA (zvd _) HB2.out.size))
  have HUQ := zvb (HU3.out wq hgA)
  have HVL : Hid (v.length ≤ 300) := zvb (by have := (V.valid_len hver).2; omega)
  have q1 : ¬ (300 : Int) < (s.length : Int) := by have := HSL.out; omega
  have q2 : ¬ (300 : Int) < (v.length : Int) := by have := HVL.out; omega
  have HXQ : Hid (w2.heap.size < wq.heap.size) := zvb (World.block_lt_of_cell? _ _ c0)
  clear hgA hver htq hgq hkq HSL HTC HGC HSC HB3 HU3 HG3
  generalize 1 + (r : Int) = n at *
  clear e1
  go_wp2_with fail
  clear q1 q2
 case' true =>
  by_cases hlong : 300 < s.length ∨ 300 < v.length
  case' pos =>
   have hcase : (300 : Int) < (s.length : Int) ∨ (¬ (300 : Int) < (s.length : Int) /\ (300 : Int) < (v.length : Int)) := by omega
   clear hlong
   rcases hcase with q1 | ⟨q1, q2⟩
   all_goals
    go_wp2_with fail
    refine (HAW.out _ HB3.out).mono ?_
    rintro e w4 ⟨rfl, hb4⟩
    have HB4 := zvc HB3 hb4
    go_wp2
    go_ret
    exact ⟨ze rfl, HB4.out⟩
  have q1 : ¬ (300 : Int) < (s.length : Int) := by omega
  have q2 : ¬ (300 : Int) < (v.length : Int) := by omega
  have HBQ := HB3
  have HUQ := zvb (HU3.out _ HG3.out)
  have HVL : Hid (v.length ≤ 300) := zvb (by omega)
  have HXQ : Hid (w2.heap.size < (w2.alloc (.cells #[.string ⟨x.id.toArray⟩, .int .i64 x.rev, .int .i64 x.sev, .slice pa x.aff.length pc] 41)).heap.size) := zvb (by simp)
  clear hlong HB3 HU3 HG3 HT3
  go_wp2_with fail
  clear q1 q2
  generalize w2.alloc (.cells #[.string ⟨x.id.toArray⟩, .int .i64 x.rev, .int .i64 x.sev, .slice pa x.aff.length pc] 41) = wq at *
  obtain ⟨n, hn⟩ : ∃ n, n = sc := ⟨_, rfl⟩
  rw [← hn]
  clear hn
 all_goals
  generalize w2.heap.size = X at *
  go_loopw [13, 14] (fun dv iv W => ∃ k : Nat, k ≤ x.aff.length /\ iv = .int .i64 k /\ dv = .bool ((x.aff.take k).any (V.hitA n s v)) /\ Below wq.heap.size wq W) (fun _ iv _ => x.aff.length - (intOf iv).toNat)
  case atStart => exact ⟨0, Nat.zero_le _, rfl, rfl, zve _ _⟩
  case round =>
   obtain ⟨k, hk, rfl, hdv, hbr⟩ := hrel
   have HBR := zvb hbr
   have HBE := zvc HBQ hbr
   have HUR := zvb (HUQ.out.below hbr)
   have HMR := zvb (HM.out.below HBE.out)
   have x0 := zd hbr c0
   have x1 := zd hbr c1
   have x2 := zd hbr c2
   have x3 := zd hbr c3
   clear hbr
   by_cases hlt : k < x.aff.length
   ·obtain ⟨hwf, b, off, ua, uc, rfl, hblt, ha⟩ := HUR.out.at k hlt
    have HST := zvb (V.hit_step hlt n s v)
    have HW := zvb hwf
    have i1 : (0 : Int) ≤ (k : Int) := by omega
    have i2 : (k : Int) < (x.aff.length : Int) := by omega
    have wr1 : IntKind.i64.wrap ((k : Int) + 1) = (k : Int) + 1 := IntWalk.i64_in _ (by have := HL3.out; omega)
    generalize x.aff[k] = f at *
    generalize (x.aff.take k).any (V.hitA n s v) = d at *
    have e0 := ha.c0
    have e1 := ha.c1
    have e2 := ha.c2
    have e3 := ha.c3
    obtain ⟨hbY, y0, y1, y2, y3⟩ := zbr f (.slice ua f.its.length uc) wr
    have HBY := zvc HBR hbY
    have HMY := zvb (HMR.out.below hbY)
    have HIY := zvb (ha.its.below hbY)
    subst hdv
    clear hwf ha hblt hbY HBR HMR HUR HBE
    rcases d with _ | _
    ·by_cases hp : f.sch = n /\ f.name = s
     ·obtain ⟨rfl, rfl⟩ := hp
      go_wp2_with fail
      generalize wr.alloc (.cells #[.int .i64 f.sch, .string ⟨f.name.toArray⟩, .int .i64 f.rs, .slice ua f.its.length uc] 50) = wq2 at *
      refine (zdm f.rs (.slice ua f.its.length uc) f.its v wq2 HMY.out HIY.out HW.out.lens HW.out.len (by have := HVL.out; unfold maxLen; omega)).mono ?_
      rintro e w5 ⟨rfl, hb5⟩
      have HB5 := zvc HBY hb5
      have HHT : Hid (V.hitA f.sch f.name v f = V.zu f.rs f.its v) := zvb (by unfold V.hitA V.xx; simp)
      clear hb5
      go_wp2
      go_roundw
      case rel => exact ⟨k + 1, by omega, by go_num, by rw [HST.out, HHT.out]; simp, HB5.out⟩
      case measure => simp [intOf]; omega
     ·have HHT : Hid (V.hitA n s v f = false) := zvb (by
        unfold V.hitA V.xx
        by_cases h1 : f.sch = n
        · have : ¬ f.name = s := fun e => hp ⟨h1, e⟩
          simp [this]
        · simp [h1])
      have hcase : (f.sch == n) = false /\ ¬ f.sch = n ∨ (f.sch == n) = true /\ f.sch = n /\ (f.name == s) = false /\ ¬ f.name = s := by
       by_cases h1 : f.sch = n
       ·have h2 : ¬ f.name = s := fun e => hp ⟨h1, e⟩
        exact .inr ⟨by simpa using h1, h1, by rw [zvf]; exact h2, h2⟩
       ·exact .inl ⟨by rw [zvf]; exact h1, h1⟩
      clear hp
      rcases hcase with ⟨q1, q2⟩ | ⟨q1, q2, q3, q4⟩
      ·exact zyv
      ·subst q2
       exact zyv
    ·go_wp2
     go_roundw
     case rel => exact ⟨k + 1, by omega, by go_num, by rw [HST.out]; simp, HBY.out⟩
     case measure => simp [intOf]; omega
   ·obtain rfl : k = x.aff.length := by omega
    rw [List.take_length] at hdv
    have HC1 := zvb (HCV.out n s v)
    have HC2 := zvb (HRV.out n s v)
    generalize x.aff.any (V.hitA n s v) = d at *
    subst hdv
    go_wp2_with fail
    refine (zes x (.slice pa x.aff.length pc) n s v wr HMR.out HUR.out HL.out.1 HL.out.2 (by have := HVL.out; unfold maxLen; omega)).mono ?_
    rintro e w5 ⟨rfl, hb5⟩
    rw [HC1.out]
    replace x0 := zd hb5 x0
    replace x1 := zd hb5 x1
    replace x2 := zd hb5 x2
    replace x3 := zd hb5 x3
    have HB5 := zvc HBE hb5
    have HU5 := zvb (HUR.out.below hb5)
    clear hb5 HBE HUR HMR
    go_wp2_with fail
    refine (zj0 x (.slice pa x.aff.length pc) n s v w5 (HM.out.below HB5.out) HU5.out HL.out.1 HL.out.2 (by have := HVL.out; unfold maxLen; omega)).mono ?_
    rintro e w6 ⟨rfl, hb6⟩
    rw [HC2.out]
    have HB6 := zvc HB5 hb6
    clear hb6 HB5 HU5 x0 x1 x2 x3
    go_wp2_with fail
    refine (HAW.out w6 HB6.out).mono ?_
    rintro e w7 ⟨rfl, hb7⟩
    have HB7 := zvc HB6 hb7
    go_wp2
    go_ret
    exact ⟨ze rfl, HB7.out⟩
open Go.ChangeShapes Go.WideShapes Go.ChangeAt Go.RowKit
theorem cellsI : Tryz.prog.cellsOf 3 = 1 := by kernel_rfl
theorem cellsS : Tryz.prog.cellsOf 9 = 1 := by kernel_rfl
theorem zuj {H : Type} {enc : TypeId × Value -> H} {W : World} {base : Nat} {v : Value} {d : DataW H} {p : List MemPlace} (hv : Value.okWide Tryz.prog W .any base 28 v)
  (h : DataW.Trod enc Tryz.prog W 0 (fun _ => true) true 28 v d p) : ∃ a m cap, v = .slice a m cap /\ Nums W a m := by
 obtain ⟨a0, len, cap, rfl⟩ := okWide_slice Tryz.underlying28 hv
 refine ⟨a0, len, cap, rfl, ?_⟩
 obtain ⟨fuel0, hf⟩ := h
 rcases open_ints Tryz.underlying28 Tryz.underlying3 cellsI hf with ⟨hcs, hx⟩ | ⟨a, len', cap', zs, hcs, _, hl, hm, hz, hx, hcell, hwz⟩
 ·simp [Value.cells] at hcs
  obtain ⟨rfl, rfl, rfl⟩ := hcs
  exact ⟨by decide, fun j hj => absurd hj (by omega)⟩
 ·simp [Value.cells] at hcs
  obtain ⟨rfl, rfl, rfl⟩ := hcs
  simp only [if_true] at hz
  refine ⟨by omega, fun j hj => ?_⟩
  obtain ⟨b, off, spot⟩ := a
  have hspot : spot = none := by simpa [Addr.add] using World.cell?_spot (hcell 0 (by omega))
  subst hspot
  have hc := hcell j (by omega)
  rw [add_plain] at hc
  have hin : zs.getD j 0 ∈ zs := by rw [List.getD_eq_getElem?_getD, List.getElem?_eq_getElem (by omega)]; exact List.getElem_mem _
  exact ⟨b, off, zs.getD j 0, rfl, World.block_lt_of_cell? _ _ hc, hc, hwz _ hin⟩
theorem read_strs {H : Type} {enc : TypeId × Value -> H} {W : World} {base : Nat} {v : Value} {d : DataW H} {p : List MemPlace} (hv : Value.okWide Tryz.prog W .any base 61 v)
  (h : DataW.Trod enc Tryz.prog W 0 (fun _ => true) true 61 v d p) : ∃ L : List V.Bs, Strs W v L /\ L.length ≤ maxLen /\ ∀ x ∈ L, x.length ≤ maxLen := by
 obtain ⟨a0, len, cap, rfl⟩ := okWide_slice Tryz.underlying61 hv
 obtain ⟨fuel0, hf⟩ := h
 rcases open_strings Tryz.underlying61 Tryz.underlying9 cellsS hf with ⟨hcs, hx⟩ | ⟨a, len', cap', ss, hcs, _, hl, hm, hz, hx, hcell, hwz⟩
 ·simp [Value.cells] at hcs
  obtain ⟨rfl, rfl, rfl⟩ := hcs
  exact ⟨[], Strs.nil W, by simp, fun x hx => by simp at hx⟩
 ·simp [Value.cells] at hcs
  obtain ⟨rfl, rfl, rfl⟩ := hcs
  simp only [if_true] at hz
  have hll : ((ss.take len).map fun s : ByteArray => s.data.toList).length = len := by rw [List.length_map, List.length_take]; omega
  refine ⟨(ss.take len).map fun s : ByteArray => s.data.toList, ⟨some a, cap, by rw [hll], fun j hj => ?_⟩, by omega, fun x hx => ?_⟩
  ·rw [hll] at hj
   obtain ⟨b, off, spot⟩ := a
   have hspot : spot = none := by simpa [Addr.add] using World.cell?_spot (hcell 0 (by omega))
   subst hspot
   have hc := hcell j (by omega)
   rw [add_plain] at hc
   refine ⟨b, off, rfl, World.block_lt_of_cell? _ _ hc, ?_⟩
   rw [hc]
   congr 2
   rw [List.getElem_map, List.getElem_take, List.getD_eq_getElem?_getD, List.getElem?_eq_getElem (by omega)]
   exact (zi0 _).symm
  ·rw [List.mem_map] at hx
   obtain ⟨s, hs, rfl⟩ := hx
   rw [zh]
   exact hwz s (List.mem_of_mem_take hs)
open Go.ChangeShapes Go.WideShapes Go.ChangeAt Go.RowKit
theorem zr0 {H : Type} {enc : TypeId × Value -> H} {W : World} {base : Nat} {v : Value} {d : DataW H} {p : List MemPlace} (hv : Value.okWide Tryz.prog W .any base 28 v)
  (h : DataW.Trod enc Tryz.prog W 0 (fun _ => true) true 28 v d p) : ∃ a m cap, v = .slice a m cap /\ Nums W a m /\ m ≤ cap := by
 obtain ⟨a1, m1, c1, e1, hn⟩ := zuj hv h
 obtain ⟨a0, len, cap, rfl⟩ := okWide_slice Tryz.underlying28 hv
 cases e1
 refine ⟨_, _, _, rfl, hn, ?_⟩
 obtain ⟨fuel0, hf⟩ := h
 rcases open_ints Tryz.underlying28 Tryz.underlying3 cellsI hf with ⟨hcs, hx⟩ | ⟨a, len', cap', zs, hcs, _, hl, hm, hz, hx, hcell, hwz⟩
 ·simp [Value.cells] at hcs
  obtain ⟨rfl, rfl, rfl⟩ := hcs
  exact zvd _
 ·simp [Value.cells] at hcs
  obtain ⟨rfl, rfl, rfl⟩ := hcs
  exact hl
open Go.ChangeShapes Go.WideShapes Go.ChangeAt Go.RowKit
section
variable {H : Type} {enc : TypeId × Value -> H} {P : Program} {w : World} {base : Nat} {spare : Nat -> Bool} {held : Bool}
theorem zol {t t' t'' t3 t4 : TypeId} {args : Array Value} {ds : List (DataW H)} {ps : List MemPlace} (h : DataW.TrodAll enc P w base spare held [t, t', t'', t3, t4] args.toList ds ps) :
  ∃ v v' v'' v3 v4 d d' d'' d3 d4 p p' p'' p3 p4, args = #[v, v', v'', v3, v4] /\ ds = [d, d', d'', d3, d4] /\ ps = p ++ p' ++ p'' ++ p3 ++ p4 /\ DataW.Trod enc P w base spare held t v d p /\ DataW.Trod enc P w base spare held t' v' d' p' /\ DataW.Trod enc P w base spare held t'' v'' d'' p'' /\ DataW.Trod enc P w base spare held t3 v3 d3 p3 /\ DataW.Trod enc P w base spare held t4 v4 d4 p4 := by
 obtain ⟨v, vs, d, ds', p, q, hargs, rfl, rfl, hd, hrest⟩ := trodAll_cons h
 obtain ⟨v', vs', d', ds'', p', q', rfl, rfl, rfl, hd', hrest'⟩ := trodAll_cons hrest
 obtain ⟨v'', vs'', d'', ds''', p'', q'', rfl, rfl, rfl, hd'', hrest''⟩ := trodAll_cons hrest'
 obtain ⟨v3, vs3, d3, ds3, p3, q3, rfl, rfl, rfl, hd3, hrest3⟩ := trodAll_cons hrest''
 obtain ⟨v4, vs4, d4, ds4, p4, q4, rfl, rfl, rfl, hd4, hrest4⟩ := trodAll_cons hrest3
 obtain ⟨rfl, rfl, rfl⟩ := trodAll_nil hrest4
 exact ⟨v, v', v'', v3, v4, d, d', d'', d3, d4, p, p', p'', p3, p4, by cases args; simp_all, rfl, by simp, hd, hd', hd'', hd3, hd4⟩
theorem zra {t t' t'' t3 t4 : TypeId} {v v' v'' v3 v4 : Value} {d d' d'' d3 d4 : DataW H} {p p' p'' p3 p4 : List MemPlace} (h : DataW.Trod enc P w base spare held t v d p) (h' : DataW.Trod enc P w base spare held t' v' d' p')
  (h'' : DataW.Trod enc P w base spare held t'' v'' d'' p'') (h3 : DataW.Trod enc P w base spare held t3 v3 d3 p3) (h4 : DataW.Trod enc P w base spare held t4 v4 d4 p4) : DataW.TrodAll enc P w base spare held [t, t', t'', t3, t4] [v, v', v'', v3, v4] [d, d', d'', d3, d4] (p ++ (p' ++ (p'' ++ (p3 ++ p4)))) :=
 ⟨p, p' ++ (p'' ++ (p3 ++ p4)), h, trodAll_mk4 h' h'' h3 h4, rfl⟩
end
end Go.Proofs.YtnhfaincdabdkaaGreatDoor
namespace Go.Proofs.YtnhfaincdabdkaaGreatDoor.laying
open Go.RowKit
theorem own : ownKnob Tryz.prog.godebug = none := by kernel_rfl
theorem laidOut : laidOutB Tryz.prog = true := by kernel_rfl
mutual
def flat : DataW Unit -> List Value
 | .lit (.int k n) => [.int k n]
 | .agg ps => ztj ps
 | _ => []
def ztj : List (DataW Unit) -> List Value
 | [] => []
 | d :: r => flat d ++ ztj r
end
def zbc (l : List Value) : Obj -> Obj
 | .cells _ t frozen => .cells l.toArray t frozen
 | o => o
noncomputable def laidWorld (os : Os) : World :=
 { World.holding Tryz.prog os ⟨#[], #[], []⟩ with
   heap := ((World.holding Tryz.prog os ⟨#[], #[], []⟩).heap.modify 3 (zbc (flat Rows.laid_unicode_utf8_acceptRanges))).modify 2 (zbc (flat Rows.laid_unicode_utf8_first)) }
end Go.Proofs.YtnhfaincdabdkaaGreatDoor.laying
namespace Go.Proofs.YtnhfaincdabdkaaGreatDoor.laying
open Go.RowKit
noncomputable def laidWorldP (os : Os) : World :=
 { World.holding Tryz.prog os ⟨#[], #[], []⟩ with
   heap := (((((World.holding Tryz.prog os ⟨#[], #[], []⟩).heap.modify 3 (zbc (flat Rows.laid_unicode_utf8_acceptRanges))).modify 2 (zbc (flat Rows.laid_unicode_utf8_first))).modify 1 (zbc (flat Rows.laid_internal_strconv_uint64pow10))).modify 4 (zbc (flat Rows.laid_math_bits_deBruijn32tab))).modify 5 (zbc (flat Rows.laid_math_bits_deBruijn64tab)) }
end Go.Proofs.YtnhfaincdabdkaaGreatDoor.laying
namespace Go.Proofs.YtnhfaincdabdkaaGreatDoor
open Go.RowKit
theorem zt5 : laidOutB Tryz.prog = true := by kernel_rfl
theorem zuv : mapsRowed Tryz.prog = true := by kernel_rfl
end Go.Proofs.YtnhfaincdabdkaaGreatDoor
