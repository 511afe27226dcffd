/-
  Lemmas for the law.
-/
import Derived.Test.YtnhfaincdabdkaaGreatDoorC32x40
import Derived.Test.YtnhfaincdabdkaaGreatDoorC32x41
import Derived.Test.YtnhfaincdabdkaaGreatDoorC32x21
import Derived.Test.YtnhfaincdabdkaaGreatDoorC32x19
set_option linter.all false
set_option maxRecDepth 100000
set_option maxHeartbeats 6400000
namespace Go.Proofs.YtnhfaincdabdkaaGreatDoor
open Go.RowKit
theorem VInv.tape {V0 W W' : World} {N0 O b : Nat} {i r s : Value} {v : Value} {us : List Fs} (h : VInv V0 N0 O i r s v us W) (hg : W.grownBy W' (some b)) (hb : b < N0) : VInv W' N0 O i r s v us W' := by
 have hbs := h.base
 exact ⟨h.row.kept hg (fun e => by have := GRow.block h.row.row _ e; omega) (fun p hp c hc => by have := h.own p hp c hc; omega), (hg.block O h.lt (by intro e; cases e; omega)).trans h.inv, (hg.block N0 (Array.getElem?_eq_some_iff.1 h.zero).1 (by intro e; cases e; omega)).trans h.zero, h.own, zut _ _, hbs⟩
section
variable {α : Type} {enc : α -> List Value} {k : Nat} {T : TypeId}
theorem GRow.kept2 {w w' : World} {N g : Nat} {v : Value} {l : List α} {row : Option Nat} (h : GRow T k enc w N v l) (hv : ∀ c, v.ownBlock = some c -> c = g) (hg : w.grownBy w' row) (hr : row ≠ some g) : GRow T k enc w' N v l := by
 refine ⟨h.1, ?_⟩
 rcases h.2 with h | ⟨g', cap, cur, rfl, hb, hgg, rest⟩
 ·exact .inl h
 ·refine .inr ⟨g', cap, cur, rfl, hb, ?_, rest⟩
  have : g' = g := hv _ rfl
  subst this
  rw [hg.block g' (Array.getElem?_eq_some_iff.1 hgg).1 (fun e => hr e.symm)]
  exact hgg
end
theorem GRow.heap {α : Type} {enc : α -> List Value} {k : Nat} {T : TypeId} {w : World} {N g n c : Nat} {l : List α} (h : GRow T k enc w N (.slice (some ⟨g, 0, none⟩) n c) l) : ∃ cur fr, w.heap[g]? = some (.cells cur T fr) := by
 rcases h.2 with ⟨h, _⟩ | ⟨g', cap, cur, e, hb, hgg, _⟩
 ·cases h
 ·cases e
  exact ⟨_, _, hgg⟩
theorem vu {w w6 W7 : World} {b : Nat} {row : Option Nat} (h : w.grownBy w6 (some b)) (k : w6.grownBy W7 row) (hr : ∀ c, row = some c -> w.heap.size ≤ c) : w.grownBy W7 (some b) :=
 ⟨k.os.trans h.os, k.tape.trans h.tape, k.output.trans h.output, Nat.le_trans h.size k.size, fun i hi hq => (k.block i (Nat.lt_of_lt_of_le hi h.size) (fun e => by have := hr i e.symm; omega)).trans (h.block i hi hq)⟩
def zcb : List V.Bs := [[122, 108, 105, 98], [115, 115, 108], [108, 105, 98, 115, 47, 112, 110, 103], [97]]
def PkOk (p : Int × V.Bs) : Prop := V.scheme p.1 = true /\ p.2 ∈ zcb
theorem zly {s : V.Bs} (h : s ∈ zcb) : V.yn s = true /\ s.length ≤ 8 := by
 simp only [zcb, List.mem_cons, List.not_mem_nil, or_false] at h
 rcases h with e | e | e | e <;> (rw [e]; decide)
theorem PkOk.sound {p : Int × V.Bs} (h : PkOk p) {its : List V.Itv} (ho : V.okR p.1 its = true) (hl : 1 ≤ its.length) : V.kr ⟨p.1, p.2, p.1, its⟩ = true := by
 unfold V.kr V.rngOk
 simp only [(zly h.2).1, ho, Bool.true_and, Bool.and_true, decide_true, decide_eq_true_eq]
 exact hl
def AdvPost (b k : Nat) (w : World) (e : Ending) (w' : World) : Prop :=
 ∃ x u, e = .returned (advV x u) /\ V.MadeV x /\ Affs w' u x.aff /\ Tape w' b (k + 30) /\ w.grownBy w' (some b)
theorem zux {P : Prop} (h : P := by
 clear hK K
 refine rd 21 fun K hK => ?_
 refine zbm zka (by decide) zng affGI (by decide) rfl _ _ 39 rfl Tryz.underlying39 O (.slice vao us.length vco) us rfl HA.out.row.row w7.heap.size ((⟨p.1, p.2, p.1, its⟩, ⟨up, its.length, uq⟩) : Fs) rfl HNW.out (by have := HUL.out; omega) (Nat.le_of_lt HA.out.lt) ?_
 intro v8 w8 hr8 hg8 ho8
 obtain ⟨va8, vc8, rfl, hc8, hf8, hM9⟩ := HA.out.fin hr8 hg8 ho8 HP8.out HOW8.out
 try dsimp only
 refine hK.out _ _ ?_ (fun hHeld => nx ?_)
 ·(try dsimp only); exact ⟨zw hg8 HN1.out hHeld.1, zw hg8 HN1.out hHeld.2⟩
 clear hK K
 refine tk 22 ?_
 refine rd 23 fun K hK => ?_
 refine zgh rfl 39 _ _ rfl O 3 rfl (.slice va8 (us.length + 1) vc8) rfl _ hc8 hf8 zeg rfl ?_
 have hgs := zb0 w8 O 3 (.slice va8 (us.length + 1) vc8)
 generalize w8.setCell ⟨O, 3, none⟩ (.slice va8 (us.length + 1) vc8) = w9 at *
 try dsimp only
 refine hK.out _ _ ?_ (fun hHeld => nx ?_)
 ·(try dsimp only); exact ⟨zw hgs HN2.out hHeld.1, zw hgs HN2.out hHeld.2⟩
 clear hK K
 refine wpAnyH_done (by kernel_rfl) ?_ _
 have HT9 := zuq ((HT8.out.grown hg8 HN3.out HN4.out).grown hgs HN5.out HN6.out)
 have HR9 := zuq (((GRow.below (HRD.out.kept HG7.out (fun c e => by cases e; omega)) ((zut _ _).alloc (zus _) _)).kept2 HVG.out hg8 HN1.out).kept2 HVG.out hgs HN2.out)
 have HG9 := zuq (vu (vu ((HGD.out.trans HG7.out).trans (qn ((zut _ _).alloc (zus _) _) (some b))) hg8 HN7.out) hgs HN8.out)
 clear hHeld hO3 hgs hg8 hr8 ho8 hg7 ht7 hu how hok hl1
 go_wp2
 go_roundw
 case rel => exact ⟨j + 1, _, us ++ [((⟨p.1, p.2, p.1, its⟩, ⟨up, its.length, uq⟩) : Fs)], _, by omega, by rw [List.length_append, HUS.out]; rfl, by go_num, by rw [List.map_append, HMP.out, HTK.out]; rfl, fun q hq => by rcases List.mem_append.1 hq with h | h; exact HSN.out q h; (rw [List.mem_singleton.1 h]; exact HPKp.out.sound HSO.out.1 HSO.out.2), HR9.out, HT9.out.le (by omega), HG9.out, hM9⟩
 case measure => simp [intOf]; omega) : P := h
theorem zdc (b k : Nat) (w : World) (hm : zg w) (h : Tape w b k) (hk : k ≤ 800000) :
  Calls Tryz.prog 20 #[.pointer (some ⟨b, 0, none⟩)] w (AdvPost b k w) := by
 obtain ⟨hb0, hk0, hz0⟩ := zkg w
 have HM0 := zuq (hm.below hb0)
 have HT0 := zuq (h.below hb0)
 have HK0 := zuq hk0
 have HZ0 := zuq hz0
 have HGW := zuq (qn hb0 (some b))
 have HBB := zuq h.lt
 have HMW : Hid (∀ W, w.grownBy W (some b) -> zg W) := zuq (fun W hg => hm.tape h hg)
 clear hb0 hk0 hz0 hm h
 go_enter Tryz.func20, Tryz.ntmps20
 go_wp2_with fail
 generalize w.alloc (.cells #[.string ⟨#[]⟩, .int .i64 0, .int .i64 0, .slice none 0 0] 41) = w0 at *
 refine (zrs w0).mono ?_
 rintro e w1 ⟨rfl, hw1⟩
 have hb1 : Below w0.heap.size w0 w1 := by rw [hw1]; exact (zut _ w0).alloc (zus _) _
 have hc1 : ∀ j, j < 3 -> w1.cell? ⟨w0.heap.size, 0 + j, none⟩ = some (.string ⟨(V.zij.getD j []).toArray⟩) := fun j hj => by
  rw [hw1, World.cell?_alloc_new, Nat.zero_add]
  have h3 : j = 0 ∨ j = 1 ∨ j = 2 := by omega
  rcases h3 with rfl | rfl | rfl <;> rfl
 clear hw1
 go_wp2_with fail
 refine (zbu b k w1 ⟨w0.heap.size, 0, none⟩ 3 V.zij (HT0.out.below hb1) (by omega) (by decide) (by decide) (by have := HT0.out.lt; have := HBB.out; have := HZ0.out; simp; omega) rfl hc1).mono ?_
 rintro e w2 ⟨id, hid, rfl, ht2, hg2⟩
 have HID := zuq (V.madeId hid)
 have HM2 := zuq ((HM0.out.below hb1).tape (HT0.out.below hb1) hg2)
 have HT2 := zuq ht2
 have HG2 := zuq ((HGW.out.trans (qn hb1 (some b))).trans hg2)
 have HG02 := zuq ((qn hb1 (some b)).trans hg2)
 clear hb1 hc1 hid ht2 hg2 HM0 HT0
 go_wp2_with fail
 refine (zc9 b (k + 1) 3 w2 HT2.out (by omega) (by decide) (by decide)).mono ?_
 rintro e w3 ⟨r1, hr1, rfl, ht3, hg3⟩
 have HM3 := zuq (HM2.out.tape HT2.out hg3)
 have HT3 := zuq ht3
 have HG3 := zuq (HG2.out.trans hg3)
 have HG03 := zuq (HG02.out.trans hg3)
 have e1 : IntKind.i64.wrap (1 + (r1 : Int)) = 1 + (r1 : Int) := IntWalk.i64_in _ (by omega)
 clear ht3 hg3 HM2 HT2 HG2 HG02
 go_wp2_with fail
 refine (zc9 b (k + 2) 10 w3 HT3.out (by omega) (by decide) (by decide)).mono ?_
 rintro e w4 ⟨r2, hr2, rfl, ht4, hg4⟩
 have HM4 := zuq (HM3.out.tape HT3.out hg4)
 have HT4 := zuq ht4
 have HG4 := zuq (HG3.out.trans hg4)
 have HG04 := zuq (HG03.out.trans hg4)
 have e2 : IntKind.i64.wrap (1 + (r2 : Int)) = 1 + (r2 : Int) := IntWalk.i64_in _ (by omega)
 clear ht4 hg4 HM3 HT3 HG3 HG03
 have HR12 : Hid ((r1 : Int) < 3 /\ (r2 : Int) < 10) := zuq ⟨hr1, hr2⟩
 have hK4 : w4.heap[w.heap.size]? = some (.cells #[.string ⟨#[]⟩, .int .i64 0, .int .i64 0, .slice none 0 0] 41 (0, 0)) := (HG04.out.block _ (by have := HZ0.out; omega) (by intro e; cases e; have := HBB.out; omega)).trans HK0.out
 have hz4 : w.heap.size + 1 ≤ w4.heap.size := by have := HG04.out.size; have := HZ0.out; omega
 have hb5 : Below w4.heap.size w4 (w4.alloc (.cells #[.string ⟨id.toArray⟩, .int .i64 (1 + (r1 : Int)), .int .i64 (1 + (r2 : Int)), .slice none 0 0] 41)) := (zut _ w4).alloc (zus _) _
 have HV5 : Hid (VInv w4 w.heap.size w4.heap.size (.string ⟨id.toArray⟩) (.int .i64 (1 + (r1 : Int))) (.int .i64 (1 + (r2 : Int))) (.slice none 0 0) [] (w4.alloc (.cells #[.string ⟨id.toArray⟩, .int .i64 (1 + (r1 : Int)), .int .i64 (1 + (r2 : Int)), .slice none 0 0] 41))) := zuq ⟨FRow.nil _ _, heap_alloc_new w4 _, (hb5.block _ (by omega)).trans hK4, (fun p hp => by simp at hp), hb5, hz4⟩
 have HM5 := zuq (HM4.out.below hb5)
 have HT5 := zuq (HT4.out.below hb5)
 have HG5 := zuq (HG4.out.trans (qn hb5 (some b)))
 clear hb5 hK4 HM4 HT4 HG4 HG04 HK0 HGW HZ0
 go_wp2_with fail
 clear e1 e2
 generalize w4.alloc (.cells #[.string ⟨id.toArray⟩, .int .i64 (1 + (r1 : Int)), .int .i64 (1 + (r2 : Int)), .slice none 0 0] 41) = w5 at *
 generalize w4.heap.size = O at *
 refine (zc9 b (k + 3) 4 w5 HT5.out (by omega) (by decide) (by decide)).mono ?_
 rintro e w6 ⟨r3, hr3, rfl, ht6, hg6⟩
 have HM6 := zuq (HM5.out.tape HT5.out hg6)
 have HT6 := zuq ht6
 have HG6 := zuq (HG5.out.trans hg6)
 have HV6 := zuq (HV5.out.tape hg6 HBB.out)
 clear ht6 hg6 HM5 HT5 HG5 HV5 hz4
 go_wp2_with fail
 go_loopw [4, 5] (fun lv nv W => ∃ (j : Nat) (l : List (Int × V.Bs)) (V0 : World), j ≤ 3 /\ nv = .int .i64 j /\ l.length + j ≤ 3 /\ V.Asc l /\ (∀ p ∈ l, PkOk p) /\ GRow 79 2 pE W (b + 1) lv l /\ Tape W b (k + 10 - 2 * j) /\ w.grownBy W (some b) /\ zg W /\ VInv V0 w.heap.size O (.string ⟨id.toArray⟩) (.int .i64 (1 + (r1 : Int))) (.int .i64 (1 + (r2 : Int))) (.slice none 0 0) [] W) (fun _ nv _ => (intOf nv).toNat)
 case atStart => exact ⟨r3, [], w6, by omega, rfl, by simp; omega, List.Pairwise.nil, (fun p hp => by simp at hp), GRow.nil _ _, HT6.out.le (by omega), HG6.out, HM6.out, HV6.out⟩
 case round =>
  obtain ⟨j, l, V0, hj, rfl, hjl, hasc, hpk, hrow, ht, hg, hmx, hvi⟩ := hrel
  have HAS := zuq hasc
  have HPK := zuq hpk
  have HRW := zuq hrow
  have HT := zuq ht
  have HG := zuq hg
  have HM := zuq hmx
  have HVI := zuq hvi
  have HJL := zuq hjl
  obtain ⟨la, lc, hlv⟩ := hrow.slice
  subst hlv
  clear hasc hpk hrow ht hg hmx hvi hjl HM6 HT6 HG6 HV6
  by_cases hpos : 0 < j
  ·have i1 : (0 : Int) < (j : Int) := by omega
   have wr1 : IntKind.i64.wrap ((j : Int) - 1) = (j : Int) - 1 := IntWalk.i64_in _ (by omega)
   go_wp2_with fail
   refine (zc9 b _ 3 wr HT.out (by omega) (by decide) (by decide)).mono ?_
   rintro e wa ⟨ra, hra, rfl, hta, hga⟩
   have HTA := zuq hta
   have HMA := zuq (HM.out.tape HT.out hga)
   have HGA := zuq (HG.out.trans hga)
   have HVA := zuq (HVI.out.tape hga HBB.out)
   have HRA := zuq (HRW.out.kept hga (fun c e => by cases e; omega))
   have e1 : IntKind.i64.wrap (1 + (ra : Int)) = 1 + (ra : Int) := IntWalk.i64_in _ (by omega)
   have HSC : Hid (V.scheme (1 + (ra : Int)) = true) := zuq (by
     have h3 : ra = 0 ∨ ra = 1 ∨ ra = 2 := by omega
     rcases h3 with rfl | rfl | rfl <;> rfl)
   clear hta hga HT HM HG HVI HRW hra
   go_wp2_with fail
   refine (zo8 wa).mono ?_
   rintro e wb ⟨rfl, hwb⟩
   have hbb : Below wa.heap.size wa wb := by rw [hwb]; exact (zut _ wa).alloc (zus _) _
   have hcb : ∀ j, j < 4 -> wb.cell? ⟨wa.heap.size, 0 + j, none⟩ = some (.string ⟨(zcb.getD j []).toArray⟩) := fun j hj => by
    rw [hwb, World.cell?_alloc_new, Nat.zero_add]
    have h4 : j = 0 ∨ j = 1 ∨ j = 2 ∨ j = 3 := by omega
    rcases h4 with rfl | rfl | rfl | rfl <;> rfl
   clear hwb
   go_wp2_with fail
   refine (zbu b _ wb ⟨wa.heap.size, 0, none⟩ 4 zcb (HTA.out.below hbb) (by omega) (by decide) (by decide) (by have := HTA.out.lt; simp; omega) rfl hcb).mono ?_
   rintro e wc ⟨nm, hnm, rfl, htc, hgc⟩
   have HTC := zuq htc
   have HMC := zuq ((HMA.out.below hbb).tape (HTA.out.below hbb) hgc)
   have HGC := zuq ((HGA.out.trans (qn hbb (some b))).trans hgc)
   have HVC := zuq ((HVA.out.call hbb).tape hgc HBB.out)
   have HRC := zuq ((GRow.below HRA.out hbb).kept hgc (fun c e => by cases e; omega))
   have HNM := zuq hnm
   have hzc : b < wc.heap.size := htc.lt
   clear htc hgc hnm hbb hcb HTA HMA HGA HVA HRA
   go_wp2_with fail
   refine (zq9 (.slice la l.length lc) l (1 + (ra : Int), nm) wc (GRow.gsl zcs HRC.out) (by have := HJL.out; omega)).mono ?_
   rintro e wd ⟨u, rfl, hru, hbd⟩
   have HTD := zuq (HTC.out.below hbd)
   have HMD := zuq (HMC.out.below hbd)
   have HGD := zuq (HGC.out.trans (qn hbd (some b)))
   have HVD := zuq (HVC.out.call hbd)
   have HRD := zuq (GRow.weaken hru (show b + 1 ≤ wc.heap.size by omega))
   have HAD := zuq (V.addP_asc (p := (1 + (ra : Int), nm)) HAS.out)
   have HPD : Hid (∀ p ∈ V.addP (1 + (ra : Int), nm) l, PkOk p) := zuq (fun p hp => by
     rcases V.addP_mem hp with h | h
     · exact HPK.out p h
     · rw [h]; exact ⟨HSC.out, HNM.out⟩)
   have HLD := zuq (V.addP_len (p := (1 + (ra : Int), nm)) (l := l))
   clear hru hbd HTC HMC HGC HVC HRC HAS HPK hzc
   go_wp2
   go_roundw
   case rel => exact ⟨j - 1, _, _, by omega, by rw [show ((j - 1 : Nat) : Int) = (j : Int) - 1 by omega], by have := HLD.out; have := HJL.out; omega, HAD.out, HPD.out, HRD.out, HTD.out.le (by omega), HGD.out, HMD.out, HVD.out⟩
   case measure => simp [intOf]; omega
  ·have HJ0 : Hid (j = 0) := zuq (by omega)
   have i1 : ¬ (0 : Int) < (j : Int) := by omega
   have hjz : j = 0 := by omega
   rw [hjz] at HT HJL
   clear hpos hj hjz
   obtain ⟨jj, hjj⟩ : ∃ jj : Int, jj = (j : Int) := ⟨_, rfl⟩
   rw [← hjj] at i1 ⊢
   clear hjj
   have HL3 : Hid (l.length ≤ 3) := zuq (by have := HJL.out; omega)
   have hVI := HVI.out
   go_wp2_with fail
   go_loopw [6] (fun iv W => ∃ (j : Nat) (vo : Value) (us : List Fs) (V1 : World), j ≤ l.length /\ us.length = j /\ iv = .int .i64 j /\ us.map (fun q => V.pk q.1) = l.take j /\ (∀ q ∈ us, V.kr q.1 = true) /\ GRow 79 2 pE W (b + 1) (.slice la l.length lc) l /\ Tape W b (k + 10 + 3 * j) /\ w.grownBy W (some b) /\ VInv V1 w.heap.size O (.string ⟨id.toArray⟩) (.int .i64 (1 + (r1 : Int))) (.int .i64 (1 + (r2 : Int))) vo us W) (fun iv _ => l.length - (intOf iv).toNat)
   case atStart => exact ⟨0, _, [], _, Nat.zero_le _, rfl, rfl, by simp, (fun p hp => by simp at hp), HRW.out, HT.out.le (by omega), HG.out, hVI⟩
   case round =>
    obtain ⟨j, vo, us, V1, hj, hus, rfl, hmp, hsn, hrow, ht, hg, hvi⟩ := hrel
    obtain ⟨vao, vco, hvo⟩ := hvi.row.slice
    subst hvo
    have HUS := zuq hus
    have HMP := zuq hmp
    have HSN := zuq hsn
    have HJ : Hid (k ≤ 800000 /\ j ≤ 3) := zuq ⟨hk, by have := HL3.out; omega⟩
    have HDI := zuq hvi
    have HGI := zuq hg
    clear hVI hus hmp hsn HRW HT HG HM HVI
    by_cases hlt : j < l.length
    ·obtain ⟨g, cap', e, hNg, hgl, hc⟩ := GRow.at zcs hrow j hlt
     cases e
     have y0 : wr.drew.cell? ⟨g, j * 2, none⟩ = some (.int .i64 (l[j]).1) := hc 0 _ rfl
     have y1 : wr.drew.cell? ⟨g, j * 2 + 1, none⟩ = some (.string ⟨(l[j]).2.toArray⟩) := hc 1 _ rfl
     obtain ⟨cur, fr, hgg⟩ := hrow.heap
     have HPKp := zuq (HPK.out l[j] (List.getElem_mem hlt))
     have HPN : Hid ((l[j]).2.length ≤ maxLen) := zuq (by have := (zly HPKp.out.2).2; unfold maxLen; omega)
     have HTK : Hid (l.take (j + 1) = l.take j ++ [l[j]]) := zuq (List.take_succ_eq_append_getElem hlt)
     have hbd : Below wr.heap.size wr wr.drew := (zut _ wr).drew
     have HDD := zuq (hvi.call hbd)
     have HGD := zuq (hg.trans (qn hbd (some b)))
     have HTD := zuq (ht.below hbd)
     have HRD := zuq (GRow.below hrow hbd)
     have hO3 := (yx HDD.out.inv).2.2.2
     have HRWo : Hid (∀ c, (Value.slice vao us.length vco).ownBlock = some c -> c < wr.drew.heap.size /\ O ≤ c) := zuq (fun c e => ⟨GRow.lt HDD.out.row.row _ e, GRow.block HDD.out.row.row _ e⟩)
     have hbase := hvi.base
     have hbb := HBB.out
     have HN1 : Hid ((Value.slice vao us.length vco).ownBlock ≠ some g) := zuq (HDD.out.rowNe (hbd.block _ hgl |>.trans hgg) (by decide))
     have HN2 : Hid (some O ≠ some g) := zuq (fun e => by cases e; have h1 := hvi.inv; rw [hgg] at h1; cases h1)
     have HN3 : Hid ((Value.slice vao us.length vco).ownBlock ≠ some b) := zuq (fun e => by have := (HRWo.out _ e).2; omega)
     have HN4 : Hid (∀ b', (Value.slice vao us.length vco).ownBlock = some b' -> b < b') := zuq (fun c e => by have := (HRWo.out _ e).2; omega)
     have HN5 : Hid (some O ≠ some b) := zuq (fun e => by cases e; omega)
     have HN6 : Hid (∀ b', some O = some b' -> b < b') := zuq (fun c e => by cases e; omega)
     have HN7 : Hid (∀ c, (Value.slice vao us.length vco).ownBlock = some c -> w.heap.size ≤ c) := zuq (fun c e => by have := (HRWo.out _ e).2; omega)
     have HN8 : Hid (∀ c, some O = some c -> w.heap.size ≤ c) := zuq (fun c e => by cases e; omega)
     have HGB : Hid (some b ≠ some g) := zuq (fun e => by cases e; omega)
     have HVG : Hid (∀ c, (Value.slice (some ⟨g, 0, none⟩) l.length lc).ownBlock = some c -> c = g) := zuq (fun c hc => by simp [Value.ownBlock] at hc; exact hc.symm)
     have HUL : Hid (us.length ≤ 900000) := zuq (by have := HUS.out; have := HL3.out; omega)
     have i1 : (0 : Int) ≤ (j : Int) := by omega
     have i2 : (j : Int) < (l.length : Int) := by omega
     have wr1 : IntKind.i64.wrap ((j : Int) + 1) = (j : Int) + 1 := IntWalk.i64_in _ (by have := HL3.out; omega)
     generalize l[j] = p at *
     clear hc hgg hbd hrow ht hg hvi hbase hbb hNg hgl HDI HGI
     go_wp2_with fail
     refine wp_region_held_drew (S := (fun W' => W'.cell? ⟨g, j * 2, none⟩ = some (.int .i64 p.1) /\ W'.cell? ⟨g, j * 2 + 1, none⟩ = some (.string ⟨p.2.toArray⟩))) (by kernel_rfl) (⟨y0, y1⟩) (fun hHeld => ?_)
     generalize wr.drew = wd at *
     refine tk 0 ?_
     refine tk 2 ?_
     refine tk 3 ?_
     refine tk 4 ?_
     refine tk 5 ?_
     refine tk 6 ?_
     refine tk 7 ?_
     refine tk 8 ?_
     refine tk 9 ?_
     refine tk 10 ?_
     refine tk 11 ?_
     refine tk 12 ?_
     refine tk 13 ?_
     refine tk 14 ?_
     refine tk 15 ?_
     refine tk 16 ?_
     refine tk 17 ?_
     refine wpAnyH_ready (rs := [1, 18]) (by kernel_rfl) (by simp) ?_
     refine (AllReadyH.cons (o := _) rfl (fun K hK => ?_) (AllReadyH.cons (o := _) rfl (fun K hK => ?_) AllReadyH.nil))
     ·refine zgg rfl (.slice vao us.length vco) (by first | (have := hO3; go_simp; done) | (have := (yx HD7.out.inv).2.2.2; go_simp; done) | (have := (yx HA.out.inv).2.2.2; go_simp; done)) ?_
      try dsimp only
      refine hK.out _ _ ?_ (fun hHeld => nx ?_)
      ·exact hHeld
      clear hK K
      refine rd 18 fun K hK => ?_
      go_simp
      refine (zj9 b (k + 10 + 3 * j) p.1 wd (HMW.out _ HGD.out) HTD.out (by have := HJ.out; omega) HPKp.out.1).mono ?_
      rintro e w7 ⟨u, its, rfl, hu, hok, hl1, how, ht7, hg7⟩
      obtain ⟨up, uq, rfl⟩ := hu.slice
      unfold setV
      have HD7 := zuq (HDD.out.tape hg7 HBB.out)
      have hbZ : Below w7.heap.size w7 (w7.alloc (.cells #[.int .i64 p.1, .string ⟨p.2.toArray⟩, .int .i64 p.1, .slice up its.length uq] 50)) := (zut _ w7).alloc (zus _) _
      have HA := zuq (HD7.out.call hbZ)
      have HZ7 := zuq hg7.size
      have HP8 : Hid (FOk (w7.alloc (.cells #[.int .i64 p.1, .string ⟨p.2.toArray⟩, .int .i64 p.1, .slice up its.length uq] 50)) (.slice vao us.length vco) ((⟨p.1, p.2, p.1, its⟩, ⟨up, its.length, uq⟩) : Fs)) := zuq ⟨⟨HPN.out, yt (V.vl hok), Nat.le_trans (V.vl hok).len (by decide)⟩, rfl, hu.below hbZ, fun _ c hc e => by have := how c hc; have := (HRWo.out c e).1; omega⟩
      have HOW8 : Hid (∀ c, (Value.slice up its.length uq).ownBlock = some c -> O < c) := zuq (fun c hc => by have := how c hc; have := HDD.out.lt; omega)
      have HNW : Hid (∀ j u, (fE ((⟨p.1, p.2, p.1, its⟩, ⟨up, its.length, uq⟩) : Fs))[j]? = some u -> (w7.alloc (.cells #[.int .i64 p.1, .string ⟨p.2.toArray⟩, .int .i64 p.1, .slice up its.length uq] 50)).cell? ⟨w7.heap.size, j, none⟩ = some u) := zuq (fun j u hj => by rw [zc, if_pos rfl]; simpa [fE, Sl.v] using hj)
      have HSO : Hid (V.okR p.1 its = true /\ 1 ≤ its.length) := zuq ⟨hok, hl1⟩
      have HT8 := zuq (ht7.below hbZ)
      have HG7 := zuq hg7
      try dsimp only
      refine hK.out _ _ ?_ (fun hHeld => nx ?_)
      ·(try dsimp only); exact ⟨zw hg7 HGB.out hHeld.1, zw hg7 HGB.out hHeld.2⟩
      clear hK K
      refine tk 19 ?_
      refine rd 20 fun K hK => ?_
      go_simp
      refine hK.out _ _ ?_ (fun hHeld => nx ?_)
      ·exact zvx
      exact zux
     ·go_simp
      refine (zj9 b (k + 10 + 3 * j) p.1 wd (HMW.out _ HGD.out) HTD.out (by have := HJ.out; omega) HPKp.out.1).mono ?_
      rintro e w7 ⟨u, its, rfl, hu, hok, hl1, how, ht7, hg7⟩
      obtain ⟨up, uq, rfl⟩ := hu.slice
      unfold setV
      have HD7 := zuq (HDD.out.tape hg7 HBB.out)
      have hbZ : Below w7.heap.size w7 (w7.alloc (.cells #[.int .i64 p.1, .string ⟨p.2.toArray⟩, .int .i64 p.1, .slice up its.length uq] 50)) := (zut _ w7).alloc (zus _) _
      have HA := zuq (HD7.out.call hbZ)
      have HZ7 := zuq hg7.size
      have HP8 : Hid (FOk (w7.alloc (.cells #[.int .i64 p.1, .string ⟨p.2.toArray⟩, .int .i64 p.1, .slice up its.length uq] 50)) (.slice vao us.length vco) ((⟨p.1, p.2, p.1, its⟩, ⟨up, its.length, uq⟩) : Fs)) := zuq ⟨⟨HPN.out, yt (V.vl hok), Nat.le_trans (V.vl hok).len (by decide)⟩, rfl, hu.below hbZ, fun _ c hc e => by have := how c hc; have := (HRWo.out c e).1; omega⟩
      have HOW8 : Hid (∀ c, (Value.slice up its.length uq).ownBlock = some c -> O < c) := zuq (fun c hc => by have := how c hc; have := HDD.out.lt; omega)
      have HNW : Hid (∀ j u, (fE ((⟨p.1, p.2, p.1, its⟩, ⟨up, its.length, uq⟩) : Fs))[j]? = some u -> (w7.alloc (.cells #[.int .i64 p.1, .string ⟨p.2.toArray⟩, .int .i64 p.1, .slice up its.length uq] 50)).cell? ⟨w7.heap.size, j, none⟩ = some u) := zuq (fun j u hj => by rw [zc, if_pos rfl]; simpa [fE, Sl.v] using hj)
      have HSO : Hid (V.okR p.1 its = true /\ 1 ≤ its.length) := zuq ⟨hok, hl1⟩
      have HT8 := zuq (ht7.below hbZ)
      have HG7 := zuq hg7
      try dsimp only
      refine hK.out _ _ ?_ (fun hHeld => nx ?_)
      ·(try dsimp only); exact ⟨zw hg7 HGB.out hHeld.1, zw hg7 HGB.out hHeld.2⟩
      clear hK K
      refine tk 19 ?_
      refine wpAnyH_ready (rs := [1, 20]) (by kernel_rfl) (by simp) ?_
      refine (AllReadyH.cons (o := _) rfl (fun K hK => ?_) (AllReadyH.cons (o := _) rfl (fun K hK => ?_) AllReadyH.nil))
      ·refine zgg rfl (.slice vao us.length vco) (by first | (have := hO3; go_simp; done) | (have := (yx HD7.out.inv).2.2.2; go_simp; done) | (have := (yx HA.out.inv).2.2.2; go_simp; done)) ?_
       try dsimp only
       refine hK.out _ _ ?_ (fun hHeld => nx ?_)
       ·exact hHeld
       clear hK K
       refine rd 20 fun K hK => ?_
       go_simp
       refine hK.out _ _ ?_ (fun hHeld => nx ?_)
       ·exact zvx
       exact zux
      ·go_simp
       refine hK.out _ _ ?_ (fun hHeld => nx ?_)
       ·exact zvx
       clear hK K
       refine rd 1 fun K hK => ?_
       refine zgg rfl (.slice vao us.length vco) (by first | (have := hO3; go_simp; done) | (have := (yx HD7.out.inv).2.2.2; go_simp; done) | (have := (yx HA.out.inv).2.2.2; go_simp; done)) ?_
       try dsimp only
       refine hK.out _ _ ?_ (fun hHeld => nx ?_)
       ·exact hHeld
       exact zux
    ·obtain rfl : j = l.length := by omega
     have hc4 := yx HDI.out.inv
     obtain ⟨z0, z1, z2, z3⟩ := hc4
     have HTE := zuq ht
     rw [List.take_length] at HMP
     clear hrow ht hg hvi hlt
     go_wp2_with (first | (refine kx rfl qu _ _ rfl w.heap.size #[.string ⟨#[]⟩, .int .i64 0, .int .i64 0, .slice none 0 0] 41 HDI.out.zero rfl (.string ⟨id.toArray⟩) (.int .i64 (1 + (r1 : Int))) (.int .i64 (1 + (r2 : Int))) (.slice vao us.length vco) ⟨rfl, rfl, rfl, rfl⟩ rfl rfl ?_) | fail)
     refine bodyPost_ret (v := .agg #[.string ⟨id.toArray⟩, .int .i64 (1 + (r1 : Int)), .int .i64 (1 + (r2 : Int)), .slice vao us.length vco]) (zhu Tryz.results20 rfl (zdj Tryz.underlying41 qu (setRow_heap _ _ _ _ _ _ HDI.out.zero))) rfl ?_
     have hbase := HDI.out.base
     have hbb := HBB.out
     have hgr := qe wr w.heap.size #[.string ⟨id.toArray⟩, .int .i64 (1 + (r1 : Int)), .int .i64 (1 + (r2 : Int)), .slice vao us.length vco]
     have hlen := HUS.out
     have hl3 := HL3.out
     refine ⟨⟨id, 1 + r1, 1 + r2, us.map (·.1)⟩, .slice vao us.length vco, rfl, ⟨HID.out.1, HID.out.2, by show (1 : Int) ≤ 1 + (r1 : Int); omega, by show 1 + (r1 : Int) ≤ 3; have := HR12.out.1; omega, by show (1 : Int) ≤ 1 + (r2 : Int); omega, by show 1 + (r2 : Int) ≤ 10; have := HR12.out.2; omega, by rw [List.length_map]; omega, fun a ha => ?_, ?_⟩, ?_, ?_, zeh HGI.out hgr (zus _)⟩
     ·obtain ⟨q, hq, rfl⟩ := List.mem_map.1 ha
      exact HSN.out q hq
     ·show V.Asc ((us.map (·.1)).map V.pk)
      rw [List.map_map]
      have h := HMP.out
      rw [show (V.pk ∘ fun x : Fs => x.1) = fun q => V.pk q.1 from rfl, h]
      exact HAS.out
     ·exact (HDI.out.row.kept hgr (HDI.out.rowNe HDI.out.zero (by decide)) (fun p hp c hc => by have := HDI.out.own p hp c hc; omega)).affs
     ·exact (HTE.out.grown hgr (by intro e; cases e; omega) (by intro c e; cases e; omega)).le (by omega)
open Go.RowKit
theorem znv (n : Int) (v v' : Value) (l : List V.Itv) (w : World) (hv : Itvs w v l) (hv' : Itvs w v' l) (hl : l.length ≤ maxLen) :
  Calls Tryz.prog 79 #[setV n v, setV n v'] w fun e w' => e = .returned (.bool true) /\ Below w.heap.size w w' := by
 obtain ⟨va, vc, rfl⟩ := hv.slice
 obtain ⟨va', vc', rfl⟩ := hv'.slice
 obtain ⟨hb, h0, h1⟩ := zcw (w := w) (.cells #[.int .i64 n, .slice va l.length vc] 48) (.cells #[.int .i64 n, .slice va' l.length vc'] 48)
 have HB := zuq hb
 have c0 := (h0 0).trans (World.cell?_alloc_new ..)
 have c1 := (h0 1).trans (World.cell?_alloc_new ..)
 have d0 := (h1 0).trans (World.cell?_alloc_new ..)
 have d1 := (h1 1).trans (World.cell?_alloc_new ..)
 simp only [List.getElem?_toArray, List.getElem?_cons_zero, List.getElem?_cons_succ] at c0 c1 d0 d1
 have HV := zuq (hv.below hb)
 have HV' := zuq (hv'.below hb)
 unfold maxLen at hl
 clear hb h0 h1 hv hv'
 unfold setV
 go_enter Tryz.func79, Tryz.ntmps79
 go_wp2_with fail
 generalize (w.alloc (.cells #[.int .i64 n, .slice va l.length vc] 48)).alloc (.cells #[.int .i64 n, .slice va' l.length vc'] 48) = w0 at *
 go_loopw [5] (fun iv W => ∃ k : Nat, k ≤ l.length /\ iv = .int .i64 k /\ Below w0.heap.size w0 W) (fun iv _ => l.length - (intOf iv).toNat)
 case atStart => exact ⟨0, Nat.zero_le _, rfl, zut _ _⟩
 case round =>
  obtain ⟨k, hk, rfl, hbr⟩ := hrel
  have HBR := zuq hbr
  replace c1 := zb hbr c1
  replace d1 := zb hbr d1
  clear hbr
  by_cases hlt : k < l.length
  ·obtain ⟨b, off, rfl, hb0, hx⟩ := HV.out.at k hlt
   obtain ⟨b', off', rfl, hb0', hy⟩ := HV'.out.at k hlt
   replace hx := hx.below hb0 HBR.out
   replace hy := hy.below hb0' HBR.out
   have i1 : (0 : Int) ≤ (k : Int) := by omega
   have i2 : (k : Int) < (l.length : Int) := by omega
   have wr1 : IntKind.i64.wrap ((k : Int) + 1) = (k : Int) + 1 := IntWalk.i64_in _ (by omega)
   generalize l[k] = x at *
   unfold zbe at hx hy
   clear HV HV' c0 d0
   go_wp2_with fail
   refine wp_region_held_drew (S := (fun W' => W'.cell? ⟨w.heap.size, 1, none⟩ = some (.slice (some ⟨b, off, none⟩) l.length vc) /\ W'.cell? ⟨w.heap.size + 1, 1, none⟩ = some (.slice (some ⟨b', off', none⟩) l.length vc') /\ W'.cell? ⟨b, off + k * 4, none⟩ = some (.string ⟨x.lo.toArray⟩) /\ W'.cell? ⟨b, off + k * 4 + 1, none⟩ = some (.int .i64 x.lk) /\ W'.cell? ⟨b, off + k * 4 + 2, none⟩ = some (.string ⟨x.hi.toArray⟩) /\ W'.cell? ⟨b, off + k * 4 + 3, none⟩ = some (.int .i64 x.hk) /\ W'.cell? ⟨b', off' + k * 4, none⟩ = some (.string ⟨x.lo.toArray⟩) /\ W'.cell? ⟨b', off' + k * 4 + 1, none⟩ = some (.int .i64 x.lk) /\ W'.cell? ⟨b', off' + k * 4 + 2, none⟩ = some (.string ⟨x.hi.toArray⟩) /\ W'.cell? ⟨b', off' + k * 4 + 3, none⟩ = some (.int .i64 x.hk))) (by kernel_rfl) (by (try dsimp only); (try simp only [World.cell?_drew]); exact ⟨c1, d1, hx.1, hx.2.1, hx.2.2.1, hx.2.2.2, hy.1, hy.2.1, hy.2.2.1, hy.2.2.2⟩) (fun hHeld => ?_)
   refine tk 0 ?_
   refine tk 1 ?_
   refine tk 2 ?_
   refine tk 3 ?_
   refine tk 4 ?_
   refine tk 5 ?_
   refine tk 6 ?_
   refine tk 7 ?_
   refine tk 8 ?_
   refine tk 9 ?_
   refine tk 10 ?_
   refine wpAnyH_done (by kernel_rfl) ?_ _
   go_wp2
   go_roundw
   case rel => exact ⟨k + 1, by omega, by go_num, HBR.out.drew⟩
   case measure => simp [intOf]; omega
  ·obtain rfl : k = l.length := by omega
   go_wp2
   go_ret
   exact ⟨zd rfl, HB.out.trans (HBR.out.mono HB.out.size)⟩
theorem zln (x : V.Adv) (v v' : Value) (w : World) (hv : Affs w v x.aff) (hv' : Affs w v' x.aff) (hl : x.aff.length ≤ maxLen) :
  Calls Tryz.prog 29 #[advV x v, advV x v'] w fun e w' => e = .returned (.bool true) /\ Below w.heap.size w w' := by
 obtain ⟨pa, pc, rfl⟩ := hv.slice
 obtain ⟨pa', pc', rfl⟩ := hv'.slice
 obtain ⟨hb, h0, h1⟩ := zcw (w := w) (.cells #[.string ⟨x.id.toArray⟩, .int .i64 x.rev, .int .i64 x.sev, .slice pa x.aff.length pc] 41) (.cells #[.string ⟨x.id.toArray⟩, .int .i64 x.rev, .int .i64 x.sev, .slice pa' x.aff.length pc'] 41)
 have HB := zuq hb
 have c0 := (h0 0).trans (World.cell?_alloc_new ..)
 have c1 := (h0 1).trans (World.cell?_alloc_new ..)
 have c2 := (h0 2).trans (World.cell?_alloc_new ..)
 have c3 := (h0 3).trans (World.cell?_alloc_new ..)
 have d0 := (h1 0).trans (World.cell?_alloc_new ..)
 have d1 := (h1 1).trans (World.cell?_alloc_new ..)
 have d2 := (h1 2).trans (World.cell?_alloc_new ..)
 have d3 := (h1 3).trans (World.cell?_alloc_new ..)
 simp only [List.getElem?_toArray, List.getElem?_cons_zero, List.getElem?_cons_succ] at c0 c1 c2 c3 d0 d1 d2 d3
 have HV := zuq (hv.below hb)
 have HV' := zuq (hv'.below hb)
 unfold maxLen at hl
 clear hb h0 h1 hv hv'
 unfold advV
 go_enter Tryz.func29, Tryz.ntmps29
 go_wp2_with fail
 generalize (w.alloc (.cells #[.string ⟨x.id.toArray⟩, .int .i64 x.rev, .int .i64 x.sev, .slice pa x.aff.length pc] 41)).alloc (.cells #[.string ⟨x.id.toArray⟩, .int .i64 x.rev, .int .i64 x.sev, .slice pa' x.aff.length pc'] 41) = w0 at *
 clear c0 c1 c2 d0 d1 d2
 go_loopw [5] (fun iv W => ∃ k : Nat, k ≤ x.aff.length /\ iv = .int .i64 k /\ Below w0.heap.size w0 W) (fun iv _ => x.aff.length - (intOf iv).toNat)
 case atStart => exact ⟨0, Nat.zero_le _, rfl, zut _ _⟩
 case round =>
  obtain ⟨k, hk, rfl, hbr⟩ := hrel
  have HBR := zuq hbr
  replace c3 := zb hbr c3
  replace d3 := zb hbr d3
  clear hbr
  by_cases hlt : k < x.aff.length
  ·obtain ⟨hwf, b, off, ua, uc, rfl, hb0, hx⟩ := HV.out.at k hlt
   obtain ⟨_, b', off', ua', uc', rfl, hb0', hy⟩ := HV'.out.at k hlt
   have HA := zuq (hx.below HBR.out)
   have HA' := zuq (hy.below HBR.out)
   have HW := zuq hwf
   have i1 : (0 : Int) ≤ (k : Int) := by omega
   have i2 : (k : Int) < (x.aff.length : Int) := by omega
   have wr1 : IntKind.i64.wrap ((k : Int) + 1) = (k : Int) + 1 := IntWalk.i64_in _ (by omega)
   clear hx hy hwf HV HV'
   generalize x.aff[k] = a at *
   go_wp2_with fail
   refine wp_region_held_drew (S := (fun W' => Below wr.heap.size wr W' /\ W'.cell? ⟨w.heap.size, 3, none⟩ = some (.slice (some ⟨b, off, none⟩) x.aff.length pc) /\ W'.cell? ⟨w.heap.size + 1, 3, none⟩ = some (.slice (some ⟨b', off', none⟩) x.aff.length pc') /\ W'.cell? ⟨b, off + k * 4, none⟩ = some (.int .i64 a.sch) /\ W'.cell? ⟨b, off + k * 4 + 1, none⟩ = some (.string ⟨a.name.toArray⟩) /\ W'.cell? ⟨b, off + k * 4 + 2, none⟩ = some (.int .i64 a.rs) /\ W'.cell? ⟨b, off + k * 4 + 3, none⟩ = some (.slice ua a.its.length uc) /\ W'.cell? ⟨b', off' + k * 4, none⟩ = some (.int .i64 a.sch) /\ W'.cell? ⟨b', off' + k * 4 + 1, none⟩ = some (.string ⟨a.name.toArray⟩) /\ W'.cell? ⟨b', off' + k * 4 + 2, none⟩ = some (.int .i64 a.rs) /\ W'.cell? ⟨b', off' + k * 4 + 3, none⟩ = some (.slice ua' a.its.length uc'))) (by kernel_rfl) (by (try dsimp only); exact ⟨(zut _ _).drew, zb (zut _ _).drew c3, zb (zut _ _).drew d3, zb (zut _ _).drew HA.out.c0, zb (zut _ _).drew HA.out.c1, zb (zut _ _).drew HA.out.c2, zb (zut _ _).drew HA.out.c3, zb (zut _ _).drew HA'.out.c0, zb (zut _ _).drew HA'.out.c1, zb (zut _ _).drew HA'.out.c2, zb (zut _ _).drew HA'.out.c3⟩) (fun hHeld => ?_)
   refine tk 0 ?_
   refine tk 1 ?_
   refine tk 2 ?_
   refine tk 3 ?_
   refine tk 4 ?_
   refine tk 5 ?_
   refine tk 6 ?_
   refine tk 7 ?_
   refine tk 8 ?_
   refine tk 9 ?_
   refine tk 10 ?_
   refine tk 11 ?_
   refine tk 12 ?_
   refine tk 13 ?_
   refine tk 14 ?_
   refine tk 15 ?_
   refine tk 16 ?_
   refine tk 17 ?_
   refine tk 18 ?_
   refine tk 19 ?_
   refine tk 20 ?_
   refine tk 21 ?_
   refine tk 22 ?_
   refine tk 23 ?_
   refine tk 24 ?_
   refine tk 25 ?_
   refine tk 26 ?_
   refine tk 27 ?_
   refine tk 28 ?_
   refine tk 29 ?_
   refine tk 30 ?_
   refine tk 31 ?_
   refine tk 32 ?_
   refine tk 33 ?_
   refine tk 34 ?_
   refine tk 35 ?_
   refine tk 36 ?_
   refine tk 37 ?_
   refine tk 38 ?_
   refine tk 39 ?_
   refine tk 40 ?_
   refine rd 41 fun K hK => ?_
   go_simp
   refine (znv a.rs (.slice ua a.its.length uc) (.slice ua' a.its.length uc') a.its _ (HA.out.its.below (show Below wr.heap.size wr _ from (by first | assumption | exact And.left (by assumption)))) (HA'.out.its.below (show Below wr.heap.size wr _ from (by first | assumption | exact And.left (by assumption)))) HW.out.len).mono ?_
   rintro e wr41 ⟨rfl, hbr41⟩
   try dsimp only
   refine hK.out _ _ ?_ (fun hHeld => nx ?_)
   ·(try dsimp only); go_split_ands; exact ⟨Below.trans (by assumption) (hbr41.mono (Below.size (by assumption))), zuw hbr41, zuw hbr41, zuw hbr41, zuw hbr41, zuw hbr41, zuw hbr41, zuw hbr41, zuw hbr41, zuw hbr41, zuw hbr41⟩
   clear hK K
   refine tk 42 ?_
   refine tk 43 ?_
   refine wpAnyH_done (by kernel_rfl) ?_ _
   have HBZ := zuq (HBR.out.trans (hHeld.1.mono HBR.out.size))
   clear hHeld
   go_wp2
   go_roundw
   case rel => exact ⟨k + 1, by omega, by go_num, HBZ.out⟩
   case measure => simp [intOf]; omega
  ·obtain rfl : k = x.aff.length := by omega
   go_wp2
   go_ret
   exact ⟨zd rfl, HB.out.trans (HBR.out.mono HB.out.size)⟩
end Go.Proofs.YtnhfaincdabdkaaGreatDoor
