/-
  Lemmas for the law.
-/
import Derived.Test.YtiloljoancdcbaaGreatDoorC38x43
import Derived.Test.YtiloljoancdcbaaGreatDoorC38x44
import Derived.Test.YtiloljoancdcbaaGreatDoorC38x45
import Derived.Test.YtiloljoancdcbaaGreatDoorC38x16
import Derived.Test.YtiloljoancdcbaaGreatDoorC38x40
set_option linter.all false
set_option maxRecDepth 100000
set_option maxHeartbeats 6400000
namespace Go.Proofs.YtiloljoancdcbaaGreatDoor
open Go.RowKit
theorem VInv.tape {V0 W W' : World} {N0 O b : Nat} {i r s : Value} {v : Value} {us : List Fs} (h : VInv V0 N0 O i r s v us W) (hg : W.grownBy W' (some b)) (hb : b < N0) : VInv W' N0 O i r s v us W' := by
 have hbs := h.base
 exact ⟨h.row.kept hg (fun e => by have := GRow.block h.row.row _ e; omega) (fun p hp c hc => by have := h.own p hp c hc; omega), (hg.block O h.lt (by intro e; cases e; omega)).trans h.inv, (hg.block N0 (Array.getElem?_eq_some_iff.1 h.zero).1 (by intro e; cases e; omega)).trans h.zero, h.own, zvu _ _, hbs⟩
section
variable {α : Type} {enc : α -> List Value} {k : Nat} {T : TypeId}
theorem GRow.kept2 {w w' : World} {N g : Nat} {v : Value} {l : List α} {row : Option Nat} (h : GRow T k enc w N v l) (hv : ∀ c, v.ownBlock = some c -> c = g) (hg : w.grownBy w' row) (hr : row ≠ some g) : GRow T k enc w' N v l := by
 refine ⟨h.1, ?_⟩
 rcases h.2 with h | ⟨g', cap, cur, rfl, hb, hgg, rest⟩
 ·exact .inl h
 ·refine .inr ⟨g', cap, cur, rfl, hb, ?_, rest⟩
  have : g' = g := hv _ rfl
  subst this
  rw [hg.block g' (Array.getElem?_eq_some_iff.1 hgg).1 (fun e => hr e.symm)]
  exact hgg
end
theorem GRow.heap {α : Type} {enc : α -> List Value} {k : Nat} {T : TypeId} {w : World} {N g n c : Nat} {l : List α} (h : GRow T k enc w N (.slice (some ⟨g, 0, none⟩) n c) l) : ∃ cur fr, w.heap[g]? = some (.cells cur T fr) := by
 rcases h.2 with ⟨h, _⟩ | ⟨g', cap, cur, e, hb, hgg, _⟩
 ·cases h
 ·cases e
  exact ⟨_, _, hgg⟩
theorem zae {w w6 W7 : World} {b : Nat} {row : Option Nat} (h : w.grownBy w6 (some b)) (k : w6.grownBy W7 row) (hr : ∀ c, row = some c -> w.heap.size ≤ c) : w.grownBy W7 (some b) :=
 ⟨k.os.trans h.os, k.tape.trans h.tape, k.output.trans h.output, Nat.le_trans h.size k.size, fun i hi hq => (k.block i (Nat.lt_of_lt_of_le hi h.size) (fun e => by have := hr i e.symm; omega)).trans (h.block i hi hq)⟩
def zcu : List V.Bs := [[122, 108, 105, 98], [115, 115, 108], [108, 105, 98, 115, 47, 112, 110, 103], [97]]
def PkOk (p : Int × V.Bs) : Prop := V.scheme p.1 = true /\ p.2 ∈ zcu
theorem zmg {s : V.Bs} (h : s ∈ zcu) : V.xc s = true /\ s.length ≤ 8 := by
 simp only [zcu, List.mem_cons, List.not_mem_nil, or_false] at h
 rcases h with e | e | e | e <;> (rw [e]; decide)
theorem PkOk.sound {p : Int × V.Bs} (h : PkOk p) {its : List V.Itv} (ho : V.okR p.1 its = true) (hl : 1 ≤ its.length) : V.kd ⟨p.1, p.2, p.1, its⟩ = true := by
 unfold V.kd V.zdd
 simp only [(zmg h.2).1, ho, Bool.true_and, Bool.and_true, decide_true, decide_eq_true_eq]
 exact hl
def AdvPostF (b k : Nat) (w : World) (e : Ending) (w' : World) : Prop :=
 ∃ x u, ∃ us : List Fs, e = .returned (advV x u) /\ V.MadeV x /\ x.aff = us.map (·.1) /\ (∀ W, w'.grownBy W (some b) -> FRow w.heap.size W u us) /\ Tape w' b (k + 30) /\ w.grownBy w' (some b)
theorem zvz {P : Prop} (h : P := by
 clear hK K
 refine rd 21 fun K hK => ?_
 refine kx vd (by decide) zdr zhz (by decide) rfl _ _ 23 rfl Tryz.underlying23 O (.slice vao us.length vco) us rfl HA.out.row.row w7.heap.size ((⟨p.1, p.2, p.1, its⟩, ⟨up, its.length, uq⟩) : Fs) rfl HNW.out (by have := HUL.out; omega) (Nat.le_of_lt HA.out.lt) ?_
 intro v8 w8 hr8 hg8 ho8
 obtain ⟨va8, vc8, rfl, hc8, hf8, hM9⟩ := HA.out.fin hr8 hg8 ho8 HP8.out HOW8.out
 try dsimp only
 refine hK.out _ _ ?_ (fun hHeld => nx ?_)
 ·(try dsimp only); exact ⟨qm hg8 HN1.out hHeld.1, qm hg8 HN1.out hHeld.2⟩
 clear hK K
 refine tk 22 ?_
 refine rd 23 fun K hK => ?_
 refine yq rfl 23 _ _ rfl O 3 rfl (.slice va8 (us.length + 1) vc8) rfl _ hc8 hf8 vj rfl ?_
 have hgs := yr w8 O 3 (.slice va8 (us.length + 1) vc8)
 generalize w8.setCell ⟨O, 3, none⟩ (.slice va8 (us.length + 1) vc8) = w9 at *
 try dsimp only
 refine hK.out _ _ ?_ (fun hHeld => nx ?_)
 ·(try dsimp only); exact ⟨qm hgs HN2.out hHeld.1, qm hgs HN2.out hHeld.2⟩
 clear hK K
 refine wpAnyH_done (by kernel_rfl) ?_ _
 have HT9 := zvr ((HT8.out.grown hg8 HN3.out HN4.out).grown hgs HN5.out HN6.out)
 have HR9 := zvr (((GRow.below (HRD.out.kept HG7.out (fun c e => by cases e; omega)) ((zvu _ _).alloc (zvt _) _)).kept2 HVG.out hg8 HN1.out).kept2 HVG.out hgs HN2.out)
 have HG9 := zvr (zae (zae ((HGD.out.trans HG7.out).trans (qp ((zvu _ _).alloc (zvt _) _) (some b))) hg8 HN7.out) hgs HN8.out)
 clear hHeld hO3 hgs hg8 hr8 ho8 hg7 ht7 hu how hok hl1
 go_wp2
 go_roundw
 case rel => exact ⟨j + 1, _, us ++ [((⟨p.1, p.2, p.1, its⟩, ⟨up, its.length, uq⟩) : Fs)], _, by omega, by rw [List.length_append, HUS.out]; rfl, by go_num, by rw [List.map_append, HMP.out, HTK.out]; rfl, fun q hq => by rcases List.mem_append.1 hq with h | h; exact HSN.out q h; (rw [List.mem_singleton.1 h]; exact HPKp.out.sound HSO.out.1 HSO.out.2), HR9.out, HT9.out.le (by omega), HG9.out, hM9⟩
 case measure => simp [intOf]; omega) : P := h
theorem zw3 {P : Prop} (h : P := by
 (try dsimp only); exact ⟨zb ((zvu _ _).alloc (zvt _) _) hHeld.1, zb ((zvu _ _).alloc (zvt _) _) hHeld.2⟩) : P := h
theorem zn4 (b k : Nat) (w : World) (hm : zg w) (h : Tape w b k) (hk : k ≤ 800000) :
  Calls Tryz.prog 6 #[.pointer (some ⟨b, 0, none⟩)] w (AdvPostF b k w) := by
 obtain ⟨hb0, hk0, hz0⟩ := zkt w
 have HM0 := zvr (hm.below hb0)
 have HT0 := zvr (h.below hb0)
 have HK0 := zvr hk0
 have HZ0 := zvr hz0
 have HGW := zvr (qp hb0 (some b))
 have HBB := zvr h.lt
 have HMW : Hid (∀ W, w.grownBy W (some b) -> zg W) := zvr (fun W hg => hm.tape h hg)
 clear hb0 hk0 hz0 hm h
 go_enter Tryz.func6, Tryz.ntmps6
 go_wp2_with fail
 generalize w.alloc (.cells #[.string ⟨#[]⟩, .int .i64 0, .int .i64 0, .slice none 0 0] 25) = w0 at *
 refine (zsm w0).mono ?_
 rintro e w1 ⟨rfl, hw1⟩
 have hb1 : Below w0.heap.size w0 w1 := by rw [hw1]; exact (zvu _ w0).alloc (zvt _) _
 have hc1 : ∀ j, j < 3 -> w1.cell? ⟨w0.heap.size, 0 + j, none⟩ = some (.string ⟨(V.ziy.getD j []).toArray⟩) := fun j hj => by
  rw [hw1, World.cell?_alloc_new, Nat.zero_add]
  have h3 : j = 0 ∨ j = 1 ∨ j = 2 := by omega
  rcases h3 with rfl | rfl | rfl <;> rfl
 clear hw1
 go_wp2_with fail
 refine (zcd b k w1 ⟨w0.heap.size, 0, none⟩ 3 V.ziy (HT0.out.below hb1) (by omega) (by decide) (by decide) (by have := HT0.out.lt; have := HBB.out; have := HZ0.out; simp; omega) rfl hc1).mono ?_
 rintro e w2 ⟨id, hid, rfl, ht2, hg2⟩
 have HID := zvr (V.madeId hid)
 have HM2 := zvr ((HM0.out.below hb1).tape (HT0.out.below hb1) hg2)
 have HT2 := zvr ht2
 have HG2 := zvr ((HGW.out.trans (qp hb1 (some b))).trans hg2)
 have HG02 := zvr ((qp hb1 (some b)).trans hg2)
 clear hb1 hc1 hid ht2 hg2 HM0 HT0
 go_wp2_with fail
 refine (zdo b (k + 1) 3 w2 HT2.out (by omega) (by decide) (by decide)).mono ?_
 rintro e w3 ⟨r1, hr1, rfl, ht3, hg3⟩
 have HM3 := zvr (HM2.out.tape HT2.out hg3)
 have HT3 := zvr ht3
 have HG3 := zvr (HG2.out.trans hg3)
 have HG03 := zvr (HG02.out.trans hg3)
 have e1 : IntKind.i64.wrap (1 + (r1 : Int)) = 1 + (r1 : Int) := IntWalk.i64_in _ (by omega)
 clear ht3 hg3 HM2 HT2 HG2 HG02
 go_wp2_with fail
 refine (zdo b (k + 2) 10 w3 HT3.out (by omega) (by decide) (by decide)).mono ?_
 rintro e w4 ⟨r2, hr2, rfl, ht4, hg4⟩
 have HM4 := zvr (HM3.out.tape HT3.out hg4)
 have HT4 := zvr ht4
 have HG4 := zvr (HG3.out.trans hg4)
 have HG04 := zvr (HG03.out.trans hg4)
 have e2 : IntKind.i64.wrap (1 + (r2 : Int)) = 1 + (r2 : Int) := IntWalk.i64_in _ (by omega)
 clear ht4 hg4 HM3 HT3 HG3 HG03
 have HR12 : Hid ((r1 : Int) < 3 /\ (r2 : Int) < 10) := zvr ⟨hr1, hr2⟩
 have hK4 : w4.heap[w.heap.size]? = some (.cells #[.string ⟨#[]⟩, .int .i64 0, .int .i64 0, .slice none 0 0] 25 (0, 0)) := (HG04.out.block _ (by have := HZ0.out; omega) (by intro e; cases e; have := HBB.out; omega)).trans HK0.out
 have hz4 : w.heap.size + 1 ≤ w4.heap.size := by have := HG04.out.size; have := HZ0.out; omega
 have hb5 : Below w4.heap.size w4 (w4.alloc (.cells #[.string ⟨id.toArray⟩, .int .i64 (1 + (r1 : Int)), .int .i64 (1 + (r2 : Int)), .slice none 0 0] 25)) := (zvu _ w4).alloc (zvt _) _
 have HV5 : Hid (VInv w4 w.heap.size w4.heap.size (.string ⟨id.toArray⟩) (.int .i64 (1 + (r1 : Int))) (.int .i64 (1 + (r2 : Int))) (.slice none 0 0) [] (w4.alloc (.cells #[.string ⟨id.toArray⟩, .int .i64 (1 + (r1 : Int)), .int .i64 (1 + (r2 : Int)), .slice none 0 0] 25))) := zvr ⟨FRow.nil _ _, heap_alloc_new w4 _, (hb5.block _ (by omega)).trans hK4, (fun p hp => by simp at hp), hb5, hz4⟩
 have HM5 := zvr (HM4.out.below hb5)
 have HT5 := zvr (HT4.out.below hb5)
 have HG5 := zvr (HG4.out.trans (qp hb5 (some b)))
 clear hb5 hK4 HM4 HT4 HG4 HG04 HK0 HGW HZ0
 go_wp2_with fail
 clear e1 e2
 generalize w4.alloc (.cells #[.string ⟨id.toArray⟩, .int .i64 (1 + (r1 : Int)), .int .i64 (1 + (r2 : Int)), .slice none 0 0] 25) = w5 at *
 generalize w4.heap.size = O at *
 refine (zdo b (k + 3) 4 w5 HT5.out (by omega) (by decide) (by decide)).mono ?_
 rintro e w6 ⟨r3, hr3, rfl, ht6, hg6⟩
 have HM6 := zvr (HM5.out.tape HT5.out hg6)
 have HT6 := zvr ht6
 have HG6 := zvr (HG5.out.trans hg6)
 have HV6 := zvr (HV5.out.tape hg6 HBB.out)
 clear ht6 hg6 HM5 HT5 HG5 HV5 hz4
 go_wp2_with fail
 go_loopw [4, 5] (fun lv nv W => ∃ (j : Nat) (l : List (Int × V.Bs)) (V0 : World), j ≤ 3 /\ nv = .int .i64 j /\ l.length + j ≤ 3 /\ V.Asc l /\ (∀ p ∈ l, PkOk p) /\ GRow 57 2 pE W (b + 1) lv l /\ Tape W b (k + 10 - 2 * j) /\ w.grownBy W (some b) /\ zg W /\ VInv V0 w.heap.size O (.string ⟨id.toArray⟩) (.int .i64 (1 + (r1 : Int))) (.int .i64 (1 + (r2 : Int))) (.slice none 0 0) [] W) (fun _ nv _ => (intOf nv).toNat)
 case atStart => exact ⟨r3, [], w6, by omega, rfl, by simp; omega, List.Pairwise.nil, (fun p hp => by simp at hp), GRow.nil _ _, HT6.out.le (by omega), HG6.out, HM6.out, HV6.out⟩
 case round =>
  obtain ⟨j, l, V0, hj, rfl, hjl, hasc, hpk, hrow, ht, hg, hmx, hvi⟩ := hrel
  have HAS := zvr hasc
  have HPK := zvr hpk
  have HRW := zvr hrow
  have HT := zvr ht
  have HG := zvr hg
  have HM := zvr hmx
  have HVI := zvr hvi
  have HJL := zvr hjl
  obtain ⟨la, lc, hlv⟩ := hrow.slice
  subst hlv
  clear hasc hpk hrow ht hg hmx hvi hjl HM6 HT6 HG6 HV6
  by_cases hpos : 0 < j
  ·have i1 : (0 : Int) < (j : Int) := by omega
   have wr1 : IntKind.i64.wrap ((j : Int) - 1) = (j : Int) - 1 := IntWalk.i64_in _ (by omega)
   go_wp2_with fail
   refine (zdo b _ 3 wr HT.out (by omega) (by decide) (by decide)).mono ?_
   rintro e wa ⟨ra, hra, rfl, hta, hga⟩
   have HTA := zvr hta
   have HMA := zvr (HM.out.tape HT.out hga)
   have HGA := zvr (HG.out.trans hga)
   have HVA := zvr (HVI.out.tape hga HBB.out)
   have HRA := zvr (HRW.out.kept hga (fun c e => by cases e; omega))
   have e1 : IntKind.i64.wrap (1 + (ra : Int)) = 1 + (ra : Int) := IntWalk.i64_in _ (by omega)
   have HSC : Hid (V.scheme (1 + (ra : Int)) = true) := zvr (by
     have h3 : ra = 0 ∨ ra = 1 ∨ ra = 2 := by omega
     rcases h3 with rfl | rfl | rfl <;> rfl)
   clear hta hga HT HM HG HVI HRW hra
   go_wp2_with fail
   refine (zpy wa).mono ?_
   rintro e wb ⟨rfl, hwb⟩
   have hbb : Below wa.heap.size wa wb := by rw [hwb]; exact (zvu _ wa).alloc (zvt _) _
   have hcb : ∀ j, j < 4 -> wb.cell? ⟨wa.heap.size, 0 + j, none⟩ = some (.string ⟨(zcu.getD j []).toArray⟩) := fun j hj => by
    rw [hwb, World.cell?_alloc_new, Nat.zero_add]
    have h4 : j = 0 ∨ j = 1 ∨ j = 2 ∨ j = 3 := by omega
    rcases h4 with rfl | rfl | rfl | rfl <;> rfl
   clear hwb
   go_wp2_with fail
   refine (zcd b _ wb ⟨wa.heap.size, 0, none⟩ 4 zcu (HTA.out.below hbb) (by omega) (by decide) (by decide) (by have := HTA.out.lt; simp; omega) rfl hcb).mono ?_
   rintro e wc ⟨nm, hnm, rfl, htc, hgc⟩
   have HTC := zvr htc
   have HMC := zvr ((HMA.out.below hbb).tape (HTA.out.below hbb) hgc)
   have HGC := zvr ((HGA.out.trans (qp hbb (some b))).trans hgc)
   have HVC := zvr ((HVA.out.call hbb).tape hgc HBB.out)
   have HRC := zvr ((GRow.below HRA.out hbb).kept hgc (fun c e => by cases e; omega))
   have HNM := zvr hnm
   have hzc : b < wc.heap.size := htc.lt
   clear htc hgc hnm hbb hcb HTA HMA HGA HVA HRA
   go_wp2_with fail
   refine (zr4 (.slice la l.length lc) l (1 + (ra : Int), nm) wc (GRow.gsl zfm HRC.out) (by have := HJL.out; omega)).mono ?_
   rintro e wd ⟨u, rfl, hru, hbd⟩
   have HTD := zvr (HTC.out.below hbd)
   have HMD := zvr (HMC.out.below hbd)
   have HGD := zvr (HGC.out.trans (qp hbd (some b)))
   have HVD := zvr (HVC.out.call hbd)
   have HRD := zvr (GRow.weaken hru (show b + 1 ≤ wc.heap.size by omega))
   have HAD := zvr (V.addP_asc (p := (1 + (ra : Int), nm)) HAS.out)
   have HPD : Hid (∀ p ∈ V.addP (1 + (ra : Int), nm) l, PkOk p) := zvr (fun p hp => by
     rcases V.addP_mem hp with h | h
     · exact HPK.out p h
     · rw [h]; exact ⟨HSC.out, HNM.out⟩)
   have HLD := zvr (V.addP_len (p := (1 + (ra : Int), nm)) (l := l))
   clear hru hbd HTC HMC HGC HVC HRC HAS HPK hzc
   go_wp2
   go_roundw
   case rel => exact ⟨j - 1, _, _, by omega, by rw [show ((j - 1 : Nat) : Int) = (j : Int) - 1 by omega], by have := HLD.out; have := HJL.out; omega, HAD.out, HPD.out, HRD.out, HTD.out.le (by omega), HGD.out, HMD.out, HVD.out⟩
   case measure => simp [intOf]; omega
  ·have HJ0 : Hid (j = 0) := zvr (by omega)
   have i1 : ¬ (0 : Int) < (j : Int) := by omega
   have hjz : j = 0 := by omega
   rw [hjz] at HT HJL
   clear hpos hj hjz
   obtain ⟨jj, hjj⟩ : ∃ jj : Int, jj = (j : Int) := ⟨_, rfl⟩
   rw [← hjj] at i1 ⊢
   clear hjj
   have HL3 : Hid (l.length ≤ 3) := zvr (by have := HJL.out; omega)
   have hVI := HVI.out
   go_wp2_with fail
   go_loopw [6] (fun iv W => ∃ (j : Nat) (vo : Value) (us : List Fs) (V1 : World), j ≤ l.length /\ us.length = j /\ iv = .int .i64 j /\ us.map (fun q => V.pk q.1) = l.take j /\ (∀ q ∈ us, V.kd q.1 = true) /\ GRow 57 2 pE W (b + 1) (.slice la l.length lc) l /\ Tape W b (k + 10 + 3 * j) /\ w.grownBy W (some b) /\ VInv V1 w.heap.size O (.string ⟨id.toArray⟩) (.int .i64 (1 + (r1 : Int))) (.int .i64 (1 + (r2 : Int))) vo us W) (fun iv _ => l.length - (intOf iv).toNat)
   case atStart => exact ⟨0, _, [], _, Nat.zero_le _, rfl, rfl, by simp, (fun p hp => by simp at hp), HRW.out, HT.out.le (by omega), HG.out, hVI⟩
   case round =>
    obtain ⟨j, vo, us, V1, hj, hus, rfl, hmp, hsn, hrow, ht, hg, hvi⟩ := hrel
    obtain ⟨vao, vco, hvo⟩ := hvi.row.slice
    subst hvo
    have HUS := zvr hus
    have HMP := zvr hmp
    have HSN := zvr hsn
    have HJ : Hid (k ≤ 800000 /\ j ≤ 3) := zvr ⟨hk, by have := HL3.out; omega⟩
    have HDI := zvr hvi
    have HGI := zvr hg
    clear hVI hus hmp hsn HRW HT HG HM HVI
    by_cases hlt : j < l.length
    ·obtain ⟨g, cap', e, hNg, hgl, hc⟩ := GRow.at zfm hrow j hlt
     cases e
     have y0 : wr.drew.cell? ⟨g, j * 2, none⟩ = some (.int .i64 (l[j]).1) := hc 0 _ rfl
     have y1 : wr.drew.cell? ⟨g, j * 2 + 1, none⟩ = some (.string ⟨(l[j]).2.toArray⟩) := hc 1 _ rfl
     obtain ⟨cur, fr, hgg⟩ := hrow.heap
     have HPKp := zvr (HPK.out l[j] (List.getElem_mem hlt))
     have HPN : Hid ((l[j]).2.length ≤ maxLen) := zvr (by have := (zmg HPKp.out.2).2; unfold maxLen; omega)
     have HTK : Hid (l.take (j + 1) = l.take j ++ [l[j]]) := zvr (List.take_succ_eq_append_getElem hlt)
     have hbd : Below wr.heap.size wr wr.drew := (zvu _ wr).drew
     have HDD := zvr (hvi.call hbd)
     have HGD := zvr (hg.trans (qp hbd (some b)))
     have HTD := zvr (ht.below hbd)
     have HRD := zvr (GRow.below hrow hbd)
     have hO3 := (yb HDD.out.inv).2.2.2
     have HRWo : Hid (∀ c, (Value.slice vao us.length vco).ownBlock = some c -> c < wr.drew.heap.size /\ O ≤ c) := zvr (fun c e => ⟨GRow.lt HDD.out.row.row _ e, GRow.block HDD.out.row.row _ e⟩)
     have hbase := hvi.base
     have hbb := HBB.out
     have HN1 : Hid ((Value.slice vao us.length vco).ownBlock ≠ some g) := zvr (HDD.out.rowNe (hbd.block _ hgl |>.trans hgg) (by decide))
     have HN2 : Hid (some O ≠ some g) := zvr (fun e => by cases e; have h1 := hvi.inv; rw [hgg] at h1; cases h1)
     have HN3 : Hid ((Value.slice vao us.length vco).ownBlock ≠ some b) := zvr (fun e => by have := (HRWo.out _ e).2; omega)
     have HN4 : Hid (∀ b', (Value.slice vao us.length vco).ownBlock = some b' -> b < b') := zvr (fun c e => by have := (HRWo.out _ e).2; omega)
     have HN5 : Hid (some O ≠ some b) := zvr (fun e => by cases e; omega)
     have HN6 : Hid (∀ b', some O = some b' -> b < b') := zvr (fun c e => by cases e; omega)
     have HN7 : Hid (∀ c, (Value.slice vao us.length vco).ownBlock = some c -> w.heap.size ≤ c) := zvr (fun c e => by have := (HRWo.out _ e).2; omega)
     have HN8 : Hid (∀ c, some O = some c -> w.heap.size ≤ c) := zvr (fun c e => by cases e; omega)
     have HGB : Hid (some b ≠ some g) := zvr (fun e => by cases e; omega)
     have HVG : Hid (∀ c, (Value.slice (some ⟨g, 0, none⟩) l.length lc).ownBlock = some c -> c = g) := zvr (fun c hc => by simp [Value.ownBlock] at hc; exact hc.symm)
     have HUL : Hid (us.length ≤ 900000) := zvr (by have := HUS.out; have := HL3.out; omega)
     have i1 : (0 : Int) ≤ (j : Int) := by omega
     have i2 : (j : Int) < (l.length : Int) := by omega
     have wr1 : IntKind.i64.wrap ((j : Int) + 1) = (j : Int) + 1 := IntWalk.i64_in _ (by have := HL3.out; omega)
     generalize l[j] = p at *
     clear hc hgg hbd hrow ht hg hvi hbase hbb hNg hgl HDI HGI
     go_wp2_with fail
     refine wp_region_held_drew (S := (fun W' => W'.cell? ⟨g, j * 2, none⟩ = some (.int .i64 p.1) /\ W'.cell? ⟨g, j * 2 + 1, none⟩ = some (.string ⟨p.2.toArray⟩))) (by kernel_rfl) (⟨y0, y1⟩) (fun hHeld => ?_)
     generalize wr.drew = wd at *
     refine tk 0 ?_
     refine tk 2 ?_
     refine tk 3 ?_
     refine tk 4 ?_
     refine tk 5 ?_
     refine tk 6 ?_
     refine tk 7 ?_
     refine tk 8 ?_
     refine tk 9 ?_
     refine tk 10 ?_
     refine tk 11 ?_
     refine tk 12 ?_
     refine tk 13 ?_
     refine tk 14 ?_
     refine tk 15 ?_
     refine tk 16 ?_
     refine tk 17 ?_
     refine wpAnyH_ready (rs := [1, 18]) (by kernel_rfl) (by simp) ?_
     refine (AllReadyH.cons (o := _) rfl (fun K hK => ?_) (AllReadyH.cons (o := _) rfl (fun K hK => ?_) AllReadyH.nil))
     ·refine kr rfl (.slice vao us.length vco) (by first | (have := hO3; go_simp; done) | (have := (yb HD7.out.inv).2.2.2; go_simp; done) | (have := (yb HA.out.inv).2.2.2; go_simp; done)) ?_
      try dsimp only
      refine hK.out _ _ ?_ (fun hHeld => nx ?_)
      ·exact hHeld
      clear hK K
      refine rd 18 fun K hK => ?_
      go_simp
      refine (zkn b (k + 10 + 3 * j) p.1 wd (HMW.out _ HGD.out) HTD.out (by have := HJ.out; omega) HPKp.out.1).mono ?_
      rintro e w7 ⟨u, its, rfl, hu, hok, hl1, how, ht7, hg7⟩
      obtain ⟨up, uq, rfl⟩ := hu.slice
      unfold setV
      have HD7 := zvr (HDD.out.tape hg7 HBB.out)
      have hbZ : Below w7.heap.size w7 (w7.alloc (.cells #[.int .i64 p.1, .string ⟨p.2.toArray⟩, .int .i64 p.1, .slice up its.length uq] 34)) := (zvu _ w7).alloc (zvt _) _
      have HA := zvr (HD7.out.call hbZ)
      have HZ7 := zvr hg7.size
      have HP8 : Hid (FOk (w7.alloc (.cells #[.int .i64 p.1, .string ⟨p.2.toArray⟩, .int .i64 p.1, .slice up its.length uq] 34)) (.slice vao us.length vco) ((⟨p.1, p.2, p.1, its⟩, ⟨up, its.length, uq⟩) : Fs)) := zvr ⟨⟨HPN.out, ul (V.wu hok), Nat.le_trans (V.wu hok).len (by decide)⟩, rfl, hu.below hbZ, fun _ c hc e => by have := how c hc; have := (HRWo.out c e).1; omega⟩
      have HOW8 : Hid (∀ c, (Value.slice up its.length uq).ownBlock = some c -> O < c) := zvr (fun c hc => by have := how c hc; have := HDD.out.lt; omega)
      have HNW : Hid (∀ j u, (fE ((⟨p.1, p.2, p.1, its⟩, ⟨up, its.length, uq⟩) : Fs))[j]? = some u -> (w7.alloc (.cells #[.int .i64 p.1, .string ⟨p.2.toArray⟩, .int .i64 p.1, .slice up its.length uq] 34)).cell? ⟨w7.heap.size, j, none⟩ = some u) := zvr (fun j u hj => by rw [zc, if_pos rfl]; simpa [fE, Sl.v] using hj)
      have HSO : Hid (V.okR p.1 its = true /\ 1 ≤ its.length) := zvr ⟨hok, hl1⟩
      have HT8 := zvr (ht7.below hbZ)
      have HG7 := zvr hg7
      try dsimp only
      refine hK.out _ _ ?_ (fun hHeld => nx ?_)
      ·(try dsimp only); exact ⟨qm hg7 HGB.out hHeld.1, qm hg7 HGB.out hHeld.2⟩
      clear hK K
      refine tk 19 ?_
      refine rd 20 fun K hK => ?_
      go_simp
      refine hK.out _ _ ?_ (fun hHeld => nx ?_)
      ·exact zw3
      exact zvz
     ·go_simp
      refine (zkn b (k + 10 + 3 * j) p.1 wd (HMW.out _ HGD.out) HTD.out (by have := HJ.out; omega) HPKp.out.1).mono ?_
      rintro e w7 ⟨u, its, rfl, hu, hok, hl1, how, ht7, hg7⟩
      obtain ⟨up, uq, rfl⟩ := hu.slice
      unfold setV
      have HD7 := zvr (HDD.out.tape hg7 HBB.out)
      have hbZ : Below w7.heap.size w7 (w7.alloc (.cells #[.int .i64 p.1, .string ⟨p.2.toArray⟩, .int .i64 p.1, .slice up its.length uq] 34)) := (zvu _ w7).alloc (zvt _) _
      have HA := zvr (HD7.out.call hbZ)
      have HZ7 := zvr hg7.size
      have HP8 : Hid (FOk (w7.alloc (.cells #[.int .i64 p.1, .string ⟨p.2.toArray⟩, .int .i64 p.1, .slice up its.length uq] 34)) (.slice vao us.length vco) ((⟨p.1, p.2, p.1, its⟩, ⟨up, its.length, uq⟩) : Fs)) := zvr ⟨⟨HPN.out, ul (V.wu hok), Nat.le_trans (V.wu hok).len (by decide)⟩, rfl, hu.below hbZ, fun _ c hc e => by have := how c hc; have := (HRWo.out c e).1; omega⟩
      have HOW8 : Hid (∀ c, (Value.slice up its.length uq).ownBlock = some c -> O < c) := zvr (fun c hc => by have := how c hc; have := HDD.out.lt; omega)
      have HNW : Hid (∀ j u, (fE ((⟨p.1, p.2, p.1, its⟩, ⟨up, its.length, uq⟩) : Fs))[j]? = some u -> (w7.alloc (.cells #[.int .i64 p.1, .string ⟨p.2.toArray⟩, .int .i64 p.1, .slice up its.length uq] 34)).cell? ⟨w7.heap.size, j, none⟩ = some u) := zvr (fun j u hj => by rw [zc, if_pos rfl]; simpa [fE, Sl.v] using hj)
      have HSO : Hid (V.okR p.1 its = true /\ 1 ≤ its.length) := zvr ⟨hok, hl1⟩
      have HT8 := zvr (ht7.below hbZ)
      have HG7 := zvr hg7
      try dsimp only
      refine hK.out _ _ ?_ (fun hHeld => nx ?_)
      ·(try dsimp only); exact ⟨qm hg7 HGB.out hHeld.1, qm hg7 HGB.out hHeld.2⟩
      clear hK K
      refine tk 19 ?_
      refine wpAnyH_ready (rs := [1, 20]) (by kernel_rfl) (by simp) ?_
      refine (AllReadyH.cons (o := _) rfl (fun K hK => ?_) (AllReadyH.cons (o := _) rfl (fun K hK => ?_) AllReadyH.nil))
      ·refine kr rfl (.slice vao us.length vco) (by first | (have := hO3; go_simp; done) | (have := (yb HD7.out.inv).2.2.2; go_simp; done) | (have := (yb HA.out.inv).2.2.2; go_simp; done)) ?_
       try dsimp only
       refine hK.out _ _ ?_ (fun hHeld => nx ?_)
       ·exact hHeld
       clear hK K
       refine rd 20 fun K hK => ?_
       go_simp
       refine hK.out _ _ ?_ (fun hHeld => nx ?_)
       ·exact zw3
       exact zvz
      ·go_simp
       refine hK.out _ _ ?_ (fun hHeld => nx ?_)
       ·exact zw3
       clear hK K
       refine rd 1 fun K hK => ?_
       refine kr rfl (.slice vao us.length vco) (by first | (have := hO3; go_simp; done) | (have := (yb HD7.out.inv).2.2.2; go_simp; done) | (have := (yb HA.out.inv).2.2.2; go_simp; done)) ?_
       try dsimp only
       refine hK.out _ _ ?_ (fun hHeld => nx ?_)
       ·exact hHeld
       exact zvz
    ·obtain rfl : j = l.length := by omega
     have hc4 := yb HDI.out.inv
     obtain ⟨z0, z1, z2, z3⟩ := hc4
     have HTE := zvr ht
     rw [List.take_length] at HMP
     clear hrow ht hg hvi hlt
     go_wp2_with (first | (refine xg rfl jb _ _ rfl w.heap.size #[.string ⟨#[]⟩, .int .i64 0, .int .i64 0, .slice none 0 0] 25 HDI.out.zero rfl (.string ⟨id.toArray⟩) (.int .i64 (1 + (r1 : Int))) (.int .i64 (1 + (r2 : Int))) (.slice vao us.length vco) ⟨rfl, rfl, rfl, rfl⟩ rfl rfl ?_) | fail)
     refine bodyPost_ret (v := .agg #[.string ⟨id.toArray⟩, .int .i64 (1 + (r1 : Int)), .int .i64 (1 + (r2 : Int)), .slice vao us.length vco]) (zh5 Tryz.results6 rfl (zdw Tryz.underlying25 jb (setRow_heap _ _ _ _ _ _ HDI.out.zero))) rfl ?_
     have hbase := HDI.out.base
     have hbb := HBB.out
     have hgr := qg wr w.heap.size #[.string ⟨id.toArray⟩, .int .i64 (1 + (r1 : Int)), .int .i64 (1 + (r2 : Int)), .slice vao us.length vco]
     have hlen := HUS.out
     have hl3 := HL3.out
     refine ⟨⟨id, 1 + r1, 1 + r2, us.map (·.1)⟩, .slice vao us.length vco, us, rfl, ⟨HID.out.1, HID.out.2, by show (1 : Int) ≤ 1 + (r1 : Int); omega, by show 1 + (r1 : Int) ≤ 3; have := HR12.out.1; omega, by show (1 : Int) ≤ 1 + (r2 : Int); omega, by show 1 + (r2 : Int) ≤ 10; have := HR12.out.2; omega, by rw [List.length_map]; omega, fun a ha => ?_, ?_⟩, rfl, ?_, ?_, zeq HGI.out hgr (zvt _)⟩
     ·obtain ⟨q, hq, rfl⟩ := List.mem_map.1 ha
      exact HSN.out q hq
     ·show V.Asc ((us.map (·.1)).map V.pk)
      rw [List.map_map]
      have h := HMP.out
      rw [show (V.pk ∘ fun x : Fs => x.1) = fun q => V.pk q.1 from rfl, h]
      exact HAS.out
     ·intro W hW
      have hrk := HDI.out.row.kept hgr (HDI.out.rowNe HDI.out.zero (by decide)) (fun p hp c hc => by have := HDI.out.own p hp c hc; omega)
      exact (hrk.kept hW (fun e => by have := GRow.block hrk.row _ e; omega) (fun p hp c hc => by have := HDI.out.own p hp c hc; omega)).weaken (by omega)
     ·exact (HTE.out.grown hgr (by intro e; cases e; omega) (by intro c e; cases e; omega)).le (by omega)
open Go.RowKit
def aC (a : V.Aff) (v : Value) : List Value := [.int .i64 a.sch, .string ⟨a.name.toArray⟩, .int .i64 a.rs, v]
theorem FRow.put {N : Nat} {w : World} {g m cap : Nat} {us : List Fs} (h : FRow N w (.slice (some ⟨g, 0, none⟩) m cap) us) (k : Nat) (hk : k < us.length) (j : Nat) (hj : j < 4) (val : Value) (a : V.Aff) (ua : Option Addr) (uc : Nat)
  (hc : aC a (.slice ua a.its.length uc) = (fE us[k]).set j val) (hwf : AffWf a) (hits : Itvs w (.slice ua a.its.length uc) a.its) (hown : a.its ≠ [] -> ∀ c, (Value.slice ua a.its.length uc).ownBlock = some c -> some g ≠ some c) :
  Affs (w.setCell ⟨g, k * 4 + j, none⟩ val) (.slice (some ⟨g, 0, none⟩) m cap) ((us.map (·.1)).set k a) := by
 obtain ⟨a0, cap0, e0⟩ := GRow.slice h.row
 cases e0
 have hat : ∀ q (hq : q < us.length) i u, (fE us[q])[i]? = some u -> w.cell? ⟨g, q * 4 + i, none⟩ = some u := fun q hq i u hu => by
  obtain ⟨g', cap', e, _, _, hx⟩ := GRow.at vd h.row q hq
  cases e
  exact hx i u hu
 have hlt : g < w.heap.size := by
  obtain ⟨g', cap', e, _, hx, _⟩ := GRow.at vd h.row k hk
  cases e
  exact hx
 have hex : ∃ v, w.cell? ⟨g, k * 4 + j, none⟩ = some v := ⟨_, hat k hk j _ (List.getElem?_eq_getElem (by rw [vd]; exact hj))⟩
 have hset : ∀ o, (w.setCell ⟨g, k * 4 + j, none⟩ val).cell? ⟨g, o, none⟩ = if o = k * 4 + j then some val else w.cell? ⟨g, o, none⟩ := fun o => by
  rw [cell_set w g (k * 4 + j) g o val hex]
  simp
 have hgr := yr w g (k * 4 + j) val
 refine ⟨some ⟨g, 0, none⟩, cap, by simp, fun q hq => ?_⟩
 have hq' : q < us.length := by simpa using hq
 have hsz : g < (w.setCell ⟨g, k * 4 + j, none⟩ val).heap.size := Nat.lt_of_lt_of_le hlt hgr.size
 by_cases hqk : q = k
 ·subst hqk
  have he : ((us.map (·.1)).set q a)[q] = a := by simp
  rw [he]
  have hcell : ∀ i u, (aC a (.slice ua a.its.length uc))[i]? = some u -> (w.setCell ⟨g, q * 4 + j, none⟩ val).cell? ⟨g, 0 + q * 4 + i, none⟩ = some u := fun i u hu => by
   rw [hc, List.getElem?_set] at hu
   rw [Nat.zero_add, hset]
   by_cases hij : i = j
   ·subst hij
    rw [if_pos rfl]
    rw [if_pos rfl, if_pos (by rw [vd]; exact hj)] at hu
    exact hu
   ·rw [if_neg (by omega)]
    rw [if_neg (fun e => hij e.symm)] at hu
    exact hat q hq' i u hu
  exact ⟨hwf, g, 0, ua, uc, rfl, hsz, ⟨hcell 0 _ rfl, hcell 1 _ rfl, hcell 2 _ rfl, hcell 3 _ rfl, hits.grown hgr hown⟩⟩
 ·have he : ((us.map (·.1)).set k a)[q] = us[q].1 := by
   rw [List.getElem_set_ne (fun e => hqk e.symm), List.getElem_map]
  rw [he]
  obtain ⟨hw, hn, hi, ho⟩ := h.each us[q] (List.getElem_mem hq')
  have hv : us[q].2.v = .slice us[q].2.a us[q].1.its.length us[q].2.c := by unfold Sl.v; rw [hn]
  have hcell : ∀ i u, i < 4 -> (fE us[q])[i]? = some u -> (w.setCell ⟨g, k * 4 + j, none⟩ val).cell? ⟨g, 0 + q * 4 + i, none⟩ = some u := fun i u h4 hu => by
   rw [Nat.zero_add, hset, if_neg (by omega)]
   exact hat q hq' i u hu
  refine ⟨hw, g, 0, us[q].2.a, us[q].2.c, rfl, hsz, ⟨hcell 0 _ (by decide) rfl, hcell 1 _ (by decide) rfl, hcell 2 _ (by decide) rfl, ?_, ?_⟩⟩
  ·rw [← hv]; exact hcell 3 _ (by decide) rfl
  ·rw [← hv]
   exact hi.grown hgr (fun hne c hcb => by have := ho hne c hcb; exact this)
theorem FRow.cell {N : Nat} {w : World} {g m cap : Nat} {us : List Fs} (h : FRow N w (.slice (some ⟨g, 0, none⟩) m cap) us) (k : Nat) (hk : k < us.length) :
  N ≤ g /\ g < w.heap.size /\ (∃ cur, w.heap[g]? = some (.cells cur 34 (0, 0))) /\ ∀ i u, (fE us[k])[i]? = some u -> w.cell? ⟨g, k * 4 + i, none⟩ = some u := by
 have hc := GRow.cellsAt h.row (b := g) rfl
 obtain ⟨g', cap', e, h1, h2, h3⟩ := GRow.at vd h.row k hk
 cases e
 exact ⟨h1, h2, hc, h3⟩
theorem FRow.isSlice {N : Nat} {w : World} {u : Value} {us : List Fs} (h : FRow N w u us) (k : Nat) (hk : k < us.length) : ∃ g cap, u = .slice (some ⟨g, 0, none⟩) us.length cap := by
 obtain ⟨g, cap, e, _⟩ := GRow.at vd h.row k hk
 exact ⟨g, cap, e⟩
theorem FRow.keptN {N : Nat} {w w' : World} {v : Value} {us : List Fs} {g : Nat} (h : FRow N w v us) (hg : w.grownBy w' (some g)) (hr : v.ownBlock ≠ some g) (he : ∀ p ∈ us, p.1.its ≠ [] -> ∀ c, p.2.v.ownBlock = some c -> c ≠ g) : FRow N w' v us := by
 refine ⟨?_, fun p hp => ⟨(h.each p hp).1, (h.each p hp).2.1, (h.each p hp).2.2.1.grown hg (fun hn c hc e => he p hp hn c hc (Option.some.inj e).symm), (h.each p hp).2.2.2⟩⟩
 exact zxs
theorem znr : (Tryz.prog.info? 9).map (·.size) = some 1 := by kernel_rfl
theorem zmq : (Tryz.prog.info? 3).map (·.size) = some 1 := by kernel_rfl
theorem zvj : (Tryz.prog.info? 2).map (·.size) = some 1 := by kernel_rfl
theorem zr1 : (Tryz.prog.info? 30).map (·.size) = some 1 := by kernel_rfl
def ChS (B X : Nat) (w wx : World) : Prop :=
 ∃ (x : V.Adv) (u : Value), wx.heap[X]? = some (.cells #[.string ⟨x.id.toArray⟩, .int .i64 x.rev, .int .i64 x.sev, u] 25 (0, 0)) /\ Affs wx u x.aff /\ x.id.length ≤ maxLen /\ x.aff.length ≤ maxLen /\ Below B w wx
end Go.Proofs.YtiloljoancdcbaaGreatDoor
