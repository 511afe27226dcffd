/-
  Lemmas for the law.
-/
import Derived.Test.YtnhfaincdabdkaaGreatDoorC36x46
import Derived.Test.YtnhfaincdabdkaaGreatDoorC36x33
import Derived.Test.YtnhfaincdabdkaaGreatDoorC36x18
import Derived.Test.YtnhfaincdabdkaaGreatDoorC36x34
import Derived.Laws.StructEq
import Derived.Deep.QuietTactic
import Derived.BigQuiet
set_option linter.all false
set_option maxRecDepth 100000
set_option maxHeartbeats 6400000
namespace Go.Proofs.YtnhfaincdabdkaaGreatDoor
open Go.RowKit
theorem VInv.tape {V0 W W' : World} {N0 O b : Nat} {i r s : Value} {v : Value} {us : List Fs} (h : VInv V0 N0 O i r s v us W) (hg : W.grownBy W' (some b)) (hb : b < N0) : VInv W' N0 O i r s v us W' := by
 have hbs := h.base
 exact ⟨h.row.kept hg (fun e => by have := GRow.block h.row.row _ e; omega) (fun p hp c hc => by have := h.own p hp c hc; omega), (hg.block O h.lt (by intro e; cases e; omega)).trans h.inv, (hg.block N0 (Array.getElem?_eq_some_iff.1 h.zero).1 (by intro e; cases e; omega)).trans h.zero, h.own, zu1 _ _, hbs⟩
section
variable {α : Type} {enc : α -> List Value} {k : Nat} {T : TypeId}
theorem GRow.kept2 {w w' : World} {N g : Nat} {v : Value} {l : List α} {row : Option Nat} (h : GRow T k enc w N v l) (hv : ∀ c, v.ownBlock = some c -> c = g) (hg : w.grownBy w' row) (hr : row ≠ some g) : GRow T k enc w' N v l := by
 refine ⟨h.1, ?_⟩
 rcases h.2 with h | ⟨g', cap, cur, rfl, hb, hgg, rest⟩
 ·exact .inl h
 ·refine .inr ⟨g', cap, cur, rfl, hb, ?_, rest⟩
  have : g' = g := hv _ rfl
  subst this
  rw [hg.block g' (Array.getElem?_eq_some_iff.1 hgg).1 (fun e => hr e.symm)]
  exact hgg
end
theorem GRow.heap {α : Type} {enc : α -> List Value} {k : Nat} {T : TypeId} {w : World} {N g n c : Nat} {l : List α} (h : GRow T k enc w N (.slice (some ⟨g, 0, none⟩) n c) l) : ∃ cur fr, w.heap[g]? = some (.cells cur T fr) := by
 rcases h.2 with ⟨h, _⟩ | ⟨g', cap, cur, e, hb, hgg, _⟩
 ·cases h
 ·cases e
  exact ⟨_, _, hgg⟩
theorem vr {w w6 W7 : World} {b : Nat} {row : Option Nat} (h : w.grownBy w6 (some b)) (k : w6.grownBy W7 row) (hr : ∀ c, row = some c -> w.heap.size ≤ c) : w.grownBy W7 (some b) :=
 ⟨k.os.trans h.os, k.tape.trans h.tape, k.output.trans h.output, Nat.le_trans h.size k.size, fun i hi hq => (k.block i (Nat.lt_of_lt_of_le hi h.size) (fun e => by have := hr i e.symm; omega)).trans (h.block i hi hq)⟩
def zb7 : List V.Bs := [[122, 108, 105, 98], [115, 115, 108], [108, 105, 98, 115, 47, 112, 110, 103], [97]]
def PkOk (p : Int × V.Bs) : Prop := V.scheme p.1 = true /\ p.2 ∈ zb7
theorem zlv {s : V.Bs} (h : s ∈ zb7) : V.yj s = true /\ s.length ≤ 8 := by
 simp only [zb7, List.mem_cons, List.not_mem_nil, or_false] at h
 rcases h with e | e | e | e <;> (rw [e]; decide)
theorem PkOk.sound {p : Int × V.Bs} (h : PkOk p) {its : List V.Itv} (ho : V.okR p.1 its = true) (hl : 1 ≤ its.length) : V.kp ⟨p.1, p.2, p.1, its⟩ = true := by
 unfold V.kp V.rngOk
 simp only [(zlv h.2).1, ho, Bool.true_and, Bool.and_true, decide_true, decide_eq_true_eq]
 exact hl
def AdvPost (b k : Nat) (w : World) (e : Ending) (w' : World) : Prop :=
 ∃ x u, e = .returned (advV x u) /\ V.MadeV x /\ Affs w' u x.aff /\ Tape w' b (k + 30) /\ w.grownBy w' (some b)
def AdvPostK (b k : Nat) (w : World) (e : Ending) (w' : World) : Prop :=
 ∃ x u, e = .returned (advV x u) /\ V.MadeV x /\ (∀ W, w'.grownBy W (some b) -> Affs W u x.aff) /\ Tape w' b (k + 30) /\ w.grownBy w' (some b)
theorem zu5 {P : Prop} (h : P := by
 clear hK K
 refine rd 21 fun K hK => ?_
 refine zbg zj5 (by decide) znd affGI (by decide) rfl _ _ 39 rfl Tryz.underlying39 O (.slice vao us.length vco) us rfl HA.out.row.row w7.heap.size ((⟨p.1, p.2, p.1, its⟩, ⟨up, its.length, uq⟩) : Fs) rfl HNW.out (by have := HUL.out; omega) (Nat.le_of_lt HA.out.lt) ?_
 intro v8 w8 hr8 hg8 ho8
 obtain ⟨va8, vc8, rfl, hc8, hf8, hM9⟩ := HA.out.fin hr8 hg8 ho8 HP8.out HOW8.out
 try dsimp only
 refine hK.out _ _ ?_ (fun hHeld => nx ?_)
 ·(try dsimp only); exact ⟨qj hg8 HN1.out hHeld.1, qj hg8 HN1.out hHeld.2⟩
 clear hK K
 refine tk 22 ?_
 refine rd 23 fun K hK => ?_
 refine zf7 rfl 39 _ _ rfl O 3 rfl (.slice va8 (us.length + 1) vc8) rfl _ hc8 hf8 zd7 rfl ?_
 have hgs := zbv w8 O 3 (.slice va8 (us.length + 1) vc8)
 generalize w8.setCell ⟨O, 3, none⟩ (.slice va8 (us.length + 1) vc8) = w9 at *
 try dsimp only
 refine hK.out _ _ ?_ (fun hHeld => nx ?_)
 ·(try dsimp only); exact ⟨qj hgs HN2.out hHeld.1, qj hgs HN2.out hHeld.2⟩
 clear hK K
 refine wpAnyH_done (by kernel_rfl) ?_ _
 have HT9 := zuy ((HT8.out.grown hg8 HN3.out HN4.out).grown hgs HN5.out HN6.out)
 have HR9 := zuy (((GRow.below (HRD.out.kept HG7.out (fun c e => by cases e; omega)) ((zu1 _ _).alloc (zu0 _) _)).kept2 HVG.out hg8 HN1.out).kept2 HVG.out hgs HN2.out)
 have HG9 := zuy (vr (vr ((HGD.out.trans HG7.out).trans (qm ((zu1 _ _).alloc (zu0 _) _) (some b))) hg8 HN7.out) hgs HN8.out)
 clear hHeld hO3 hgs hg8 hr8 ho8 hg7 ht7 hu how hok hl1
 go_wp2
 go_roundw
 case rel => exact ⟨j + 1, _, us ++ [((⟨p.1, p.2, p.1, its⟩, ⟨up, its.length, uq⟩) : Fs)], _, by omega, by rw [List.length_append, HUS.out]; rfl, by go_num, by rw [List.map_append, HMP.out, HTK.out]; rfl, fun q hq => by rcases List.mem_append.1 hq with h | h; exact HSN.out q h; (rw [List.mem_singleton.1 h]; exact HPKp.out.sound HSO.out.1 HSO.out.2), HR9.out, HT9.out.le (by omega), HG9.out, hM9⟩
 case measure => simp [intOf]; omega) : P := h
theorem zoh (b k : Nat) (w : World) (hm : zg w) (h : Tape w b k) (hk : k ≤ 800000) :
  Calls Tryz.prog 20 #[.pointer (some ⟨b, 0, none⟩)] w (AdvPostK b k w) := by
 obtain ⟨hb0, hk0, hz0⟩ := zkb w
 have HM0 := zuy (hm.below hb0)
 have HT0 := zuy (h.below hb0)
 have HK0 := zuy hk0
 have HZ0 := zuy hz0
 have HGW := zuy (qm hb0 (some b))
 have HBB := zuy h.lt
 have HMW : Hid (∀ W, w.grownBy W (some b) -> zg W) := zuy (fun W hg => hm.tape h hg)
 clear hb0 hk0 hz0 hm h
 go_enter Tryz.func20, Tryz.ntmps20
 go_wp2_with fail
 generalize w.alloc (.cells #[.string ⟨#[]⟩, .int .i64 0, .int .i64 0, .slice none 0 0] 41) = w0 at *
 refine (zrv w0).mono ?_
 rintro e w1 ⟨rfl, hw1⟩
 have hb1 : Below w0.heap.size w0 w1 := by rw [hw1]; exact (zu1 _ w0).alloc (zu0 _) _
 have hc1 : ∀ j, j < 3 -> w1.cell? ⟨w0.heap.size, 0 + j, none⟩ = some (.string ⟨(V.zh9.getD j []).toArray⟩) := fun j hj => by
  rw [hw1, World.cell?_alloc_new, Nat.zero_add]
  have h3 : j = 0 ∨ j = 1 ∨ j = 2 := by omega
  rcases h3 with rfl | rfl | rfl <;> rfl
 clear hw1
 go_wp2_with fail
 refine (zbp b k w1 ⟨w0.heap.size, 0, none⟩ 3 V.zh9 (HT0.out.below hb1) (by omega) (by decide) (by decide) (by have := HT0.out.lt; have := HBB.out; have := HZ0.out; simp; omega) rfl hc1).mono ?_
 rintro e w2 ⟨id, hid, rfl, ht2, hg2⟩
 have HID := zuy (V.madeId hid)
 have HM2 := zuy ((HM0.out.below hb1).tape (HT0.out.below hb1) hg2)
 have HT2 := zuy ht2
 have HG2 := zuy ((HGW.out.trans (qm hb1 (some b))).trans hg2)
 have HG02 := zuy ((qm hb1 (some b)).trans hg2)
 clear hb1 hc1 hid ht2 hg2 HM0 HT0
 go_wp2_with fail
 refine (zc2 b (k + 1) 3 w2 HT2.out (by omega) (by decide) (by decide)).mono ?_
 rintro e w3 ⟨r1, hr1, rfl, ht3, hg3⟩
 have HM3 := zuy (HM2.out.tape HT2.out hg3)
 have HT3 := zuy ht3
 have HG3 := zuy (HG2.out.trans hg3)
 have HG03 := zuy (HG02.out.trans hg3)
 have e1 : IntKind.i64.wrap (1 + (r1 : Int)) = 1 + (r1 : Int) := IntWalk.i64_in _ (by omega)
 clear ht3 hg3 HM2 HT2 HG2 HG02
 go_wp2_with fail
 refine (zc2 b (k + 2) 10 w3 HT3.out (by omega) (by decide) (by decide)).mono ?_
 rintro e w4 ⟨r2, hr2, rfl, ht4, hg4⟩
 have HM4 := zuy (HM3.out.tape HT3.out hg4)
 have HT4 := zuy ht4
 have HG4 := zuy (HG3.out.trans hg4)
 have HG04 := zuy (HG03.out.trans hg4)
 have e2 : IntKind.i64.wrap (1 + (r2 : Int)) = 1 + (r2 : Int) := IntWalk.i64_in _ (by omega)
 clear ht4 hg4 HM3 HT3 HG3 HG03
 have HR12 : Hid ((r1 : Int) < 3 /\ (r2 : Int) < 10) := zuy ⟨hr1, hr2⟩
 have hK4 : w4.heap[w.heap.size]? = some (.cells #[.string ⟨#[]⟩, .int .i64 0, .int .i64 0, .slice none 0 0] 41 (0, 0)) := (HG04.out.block _ (by have := HZ0.out; omega) (by intro e; cases e; have := HBB.out; omega)).trans HK0.out
 have hz4 : w.heap.size + 1 ≤ w4.heap.size := by have := HG04.out.size; have := HZ0.out; omega
 have hb5 : Below w4.heap.size w4 (w4.alloc (.cells #[.string ⟨id.toArray⟩, .int .i64 (1 + (r1 : Int)), .int .i64 (1 + (r2 : Int)), .slice none 0 0] 41)) := (zu1 _ w4).alloc (zu0 _) _
 have HV5 : Hid (VInv w4 w.heap.size w4.heap.size (.string ⟨id.toArray⟩) (.int .i64 (1 + (r1 : Int))) (.int .i64 (1 + (r2 : Int))) (.slice none 0 0) [] (w4.alloc (.cells #[.string ⟨id.toArray⟩, .int .i64 (1 + (r1 : Int)), .int .i64 (1 + (r2 : Int)), .slice none 0 0] 41))) := zuy ⟨FRow.nil _ _, heap_alloc_new w4 _, (hb5.block _ (by omega)).trans hK4, (fun p hp => by simp at hp), hb5, hz4⟩
 have HM5 := zuy (HM4.out.below hb5)
 have HT5 := zuy (HT4.out.below hb5)
 have HG5 := zuy (HG4.out.trans (qm hb5 (some b)))
 clear hb5 hK4 HM4 HT4 HG4 HG04 HK0 HGW HZ0
 go_wp2_with fail
 clear e1 e2
 generalize w4.alloc (.cells #[.string ⟨id.toArray⟩, .int .i64 (1 + (r1 : Int)), .int .i64 (1 + (r2 : Int)), .slice none 0 0] 41) = w5 at *
 generalize w4.heap.size = O at *
 refine (zc2 b (k + 3) 4 w5 HT5.out (by omega) (by decide) (by decide)).mono ?_
 rintro e w6 ⟨r3, hr3, rfl, ht6, hg6⟩
 have HM6 := zuy (HM5.out.tape HT5.out hg6)
 have HT6 := zuy ht6
 have HG6 := zuy (HG5.out.trans hg6)
 have HV6 := zuy (HV5.out.tape hg6 HBB.out)
 clear ht6 hg6 HM5 HT5 HG5 HV5 hz4
 go_wp2_with fail
 go_loopw [4, 5] (fun lv nv W => ∃ (j : Nat) (l : List (Int × V.Bs)) (V0 : World), j ≤ 3 /\ nv = .int .i64 j /\ l.length + j ≤ 3 /\ V.Asc l /\ (∀ p ∈ l, PkOk p) /\ GRow 79 2 pE W (b + 1) lv l /\ Tape W b (k + 10 - 2 * j) /\ w.grownBy W (some b) /\ zg W /\ VInv V0 w.heap.size O (.string ⟨id.toArray⟩) (.int .i64 (1 + (r1 : Int))) (.int .i64 (1 + (r2 : Int))) (.slice none 0 0) [] W) (fun _ nv _ => (intOf nv).toNat)
 case atStart => exact ⟨r3, [], w6, by omega, rfl, by simp; omega, List.Pairwise.nil, (fun p hp => by simp at hp), GRow.nil _ _, HT6.out.le (by omega), HG6.out, HM6.out, HV6.out⟩
 case round =>
  obtain ⟨j, l, V0, hj, rfl, hjl, hasc, hpk, hrow, ht, hg, hmx, hvi⟩ := hrel
  have HAS := zuy hasc
  have HPK := zuy hpk
  have HRW := zuy hrow
  have HT := zuy ht
  have HG := zuy hg
  have HM := zuy hmx
  have HVI := zuy hvi
  have HJL := zuy hjl
  obtain ⟨la, lc, hlv⟩ := hrow.slice
  subst hlv
  clear hasc hpk hrow ht hg hmx hvi hjl HM6 HT6 HG6 HV6
  by_cases hpos : 0 < j
  ·have i1 : (0 : Int) < (j : Int) := by omega
   have wr1 : IntKind.i64.wrap ((j : Int) - 1) = (j : Int) - 1 := IntWalk.i64_in _ (by omega)
   go_wp2_with fail
   refine (zc2 b _ 3 wr HT.out (by omega) (by decide) (by decide)).mono ?_
   rintro e wa ⟨ra, hra, rfl, hta, hga⟩
   have HTA := zuy hta
   have HMA := zuy (HM.out.tape HT.out hga)
   have HGA := zuy (HG.out.trans hga)
   have HVA := zuy (HVI.out.tape hga HBB.out)
   have HRA := zuy (HRW.out.kept hga (fun c e => by cases e; omega))
   have e1 : IntKind.i64.wrap (1 + (ra : Int)) = 1 + (ra : Int) := IntWalk.i64_in _ (by omega)
   have HSC : Hid (V.scheme (1 + (ra : Int)) = true) := zuy (by
     have h3 : ra = 0 ∨ ra = 1 ∨ ra = 2 := by omega
     rcases h3 with rfl | rfl | rfl <;> rfl)
   clear hta hga HT HM HG HVI HRW hra
   go_wp2_with fail
   refine (zo8 wa).mono ?_
   rintro e wb ⟨rfl, hwb⟩
   have hbb : Below wa.heap.size wa wb := by rw [hwb]; exact (zu1 _ wa).alloc (zu0 _) _
   have hcb : ∀ j, j < 4 -> wb.cell? ⟨wa.heap.size, 0 + j, none⟩ = some (.string ⟨(zb7.getD j []).toArray⟩) := fun j hj => by
    rw [hwb, World.cell?_alloc_new, Nat.zero_add]
    have h4 : j = 0 ∨ j = 1 ∨ j = 2 ∨ j = 3 := by omega
    rcases h4 with rfl | rfl | rfl | rfl <;> rfl
   clear hwb
   go_wp2_with fail
   refine (zbp b _ wb ⟨wa.heap.size, 0, none⟩ 4 zb7 (HTA.out.below hbb) (by omega) (by decide) (by decide) (by have := HTA.out.lt; simp; omega) rfl hcb).mono ?_
   rintro e wc ⟨nm, hnm, rfl, htc, hgc⟩
   have HTC := zuy htc
   have HMC := zuy ((HMA.out.below hbb).tape (HTA.out.below hbb) hgc)
   have HGC := zuy ((HGA.out.trans (qm hbb (some b))).trans hgc)
   have HVC := zuy ((HVA.out.call hbb).tape hgc HBB.out)
   have HRC := zuy ((GRow.below HRA.out hbb).kept hgc (fun c e => by cases e; omega))
   have HNM := zuy hnm
   have hzc : b < wc.heap.size := htc.lt
   clear htc hgc hnm hbb hcb HTA HMA HGA HVA HRA
   go_wp2_with fail
   refine (zrc (.slice la l.length lc) l (1 + (ra : Int), nm) wc (GRow.gsl ze4 HRC.out) (by have := HJL.out; omega)).mono ?_
   rintro e wd ⟨u, rfl, hru, hbd⟩
   have HTD := zuy (HTC.out.below hbd)
   have HMD := zuy (HMC.out.below hbd)
   have HGD := zuy (HGC.out.trans (qm hbd (some b)))
   have HVD := zuy (HVC.out.call hbd)
   have HRD := zuy (GRow.weaken hru (show b + 1 ≤ wc.heap.size by omega))
   have HAD := zuy (V.addP_asc (p := (1 + (ra : Int), nm)) HAS.out)
   have HPD : Hid (∀ p ∈ V.addP (1 + (ra : Int), nm) l, PkOk p) := zuy (fun p hp => by
     rcases V.addP_mem hp with h | h
     · exact HPK.out p h
     · rw [h]; exact ⟨HSC.out, HNM.out⟩)
   have HLD := zuy (V.addP_len (p := (1 + (ra : Int), nm)) (l := l))
   clear hru hbd HTC HMC HGC HVC HRC HAS HPK hzc
   go_wp2
   go_roundw
   case rel => exact ⟨j - 1, _, _, by omega, by rw [show ((j - 1 : Nat) : Int) = (j : Int) - 1 by omega], by have := HLD.out; have := HJL.out; omega, HAD.out, HPD.out, HRD.out, HTD.out.le (by omega), HGD.out, HMD.out, HVD.out⟩
   case measure => simp [intOf]; omega
  ·have HJ0 : Hid (j = 0) := zuy (by omega)
   have i1 : ¬ (0 : Int) < (j : Int) := by omega
   have hjz : j = 0 := by omega
   rw [hjz] at HT HJL
   clear hpos hj hjz
   obtain ⟨jj, hjj⟩ : ∃ jj : Int, jj = (j : Int) := ⟨_, rfl⟩
   rw [← hjj] at i1 ⊢
   clear hjj
   have HL3 : Hid (l.length ≤ 3) := zuy (by have := HJL.out; omega)
   have hVI := HVI.out
   go_wp2_with fail
   go_loopw [6] (fun iv W => ∃ (j : Nat) (vo : Value) (us : List Fs) (V1 : World), j ≤ l.length /\ us.length = j /\ iv = .int .i64 j /\ us.map (fun q => V.pk q.1) = l.take j /\ (∀ q ∈ us, V.kp q.1 = true) /\ GRow 79 2 pE W (b + 1) (.slice la l.length lc) l /\ Tape W b (k + 10 + 3 * j) /\ w.grownBy W (some b) /\ VInv V1 w.heap.size O (.string ⟨id.toArray⟩) (.int .i64 (1 + (r1 : Int))) (.int .i64 (1 + (r2 : Int))) vo us W) (fun iv _ => l.length - (intOf iv).toNat)
   case atStart => exact ⟨0, _, [], _, Nat.zero_le _, rfl, rfl, by simp, (fun p hp => by simp at hp), HRW.out, HT.out.le (by omega), HG.out, hVI⟩
   case round =>
    obtain ⟨j, vo, us, V1, hj, hus, rfl, hmp, hsn, hrow, ht, hg, hvi⟩ := hrel
    obtain ⟨vao, vco, hvo⟩ := hvi.row.slice
    subst hvo
    have HUS := zuy hus
    have HMP := zuy hmp
    have HSN := zuy hsn
    have HJ : Hid (k ≤ 800000 /\ j ≤ 3) := zuy ⟨hk, by have := HL3.out; omega⟩
    have HDI := zuy hvi
    have HGI := zuy hg
    clear hVI hus hmp hsn HRW HT HG HM HVI
    by_cases hlt : j < l.length
    ·obtain ⟨g, cap', e, hNg, hgl, hc⟩ := GRow.at ze4 hrow j hlt
     cases e
     have y0 : wr.drew.cell? ⟨g, j * 2, none⟩ = some (.int .i64 (l[j]).1) := hc 0 _ rfl
     have y1 : wr.drew.cell? ⟨g, j * 2 + 1, none⟩ = some (.string ⟨(l[j]).2.toArray⟩) := hc 1 _ rfl
     obtain ⟨cur, fr, hgg⟩ := hrow.heap
     have HPKp := zuy (HPK.out l[j] (List.getElem_mem hlt))
     have HPN : Hid ((l[j]).2.length ≤ maxLen) := zuy (by have := (zlv HPKp.out.2).2; unfold maxLen; omega)
     have HTK : Hid (l.take (j + 1) = l.take j ++ [l[j]]) := zuy (List.take_succ_eq_append_getElem hlt)
     have hbd : Below wr.heap.size wr wr.drew := (zu1 _ wr).drew
     have HDD := zuy (hvi.call hbd)
     have HGD := zuy (hg.trans (qm hbd (some b)))
     have HTD := zuy (ht.below hbd)
     have HRD := zuy (GRow.below hrow hbd)
     have hO3 := (uk HDD.out.inv).2.2.2
     have HRWo : Hid (∀ c, (Value.slice vao us.length vco).ownBlock = some c -> c < wr.drew.heap.size /\ O ≤ c) := zuy (fun c e => ⟨GRow.lt HDD.out.row.row _ e, GRow.block HDD.out.row.row _ e⟩)
     have hbase := hvi.base
     have hbb := HBB.out
     have HN1 : Hid ((Value.slice vao us.length vco).ownBlock ≠ some g) := zuy (HDD.out.rowNe (hbd.block _ hgl |>.trans hgg) (by decide))
     have HN2 : Hid (some O ≠ some g) := zuy (fun e => by cases e; have h1 := hvi.inv; rw [hgg] at h1; cases h1)
     have HN3 : Hid ((Value.slice vao us.length vco).ownBlock ≠ some b) := zuy (fun e => by have := (HRWo.out _ e).2; omega)
     have HN4 : Hid (∀ b', (Value.slice vao us.length vco).ownBlock = some b' -> b < b') := zuy (fun c e => by have := (HRWo.out _ e).2; omega)
     have HN5 : Hid (some O ≠ some b) := zuy (fun e => by cases e; omega)
     have HN6 : Hid (∀ b', some O = some b' -> b < b') := zuy (fun c e => by cases e; omega)
     have HN7 : Hid (∀ c, (Value.slice vao us.length vco).ownBlock = some c -> w.heap.size ≤ c) := zuy (fun c e => by have := (HRWo.out _ e).2; omega)
     have HN8 : Hid (∀ c, some O = some c -> w.heap.size ≤ c) := zuy (fun c e => by cases e; omega)
     have HGB : Hid (some b ≠ some g) := zuy (fun e => by cases e; omega)
     have HVG : Hid (∀ c, (Value.slice (some ⟨g, 0, none⟩) l.length lc).ownBlock = some c -> c = g) := zuy (fun c hc => by simp [Value.ownBlock] at hc; exact hc.symm)
     have HUL : Hid (us.length ≤ 900000) := zuy (by have := HUS.out; have := HL3.out; omega)
     have i1 : (0 : Int) ≤ (j : Int) := by omega
     have i2 : (j : Int) < (l.length : Int) := by omega
     have wr1 : IntKind.i64.wrap ((j : Int) + 1) = (j : Int) + 1 := IntWalk.i64_in _ (by have := HL3.out; omega)
     generalize l[j] = p at *
     clear hc hgg hbd hrow ht hg hvi hbase hbb hNg hgl HDI HGI
     go_wp2_with fail
     refine wp_region_held_drew (S := (fun W' => W'.cell? ⟨g, j * 2, none⟩ = some (.int .i64 p.1) /\ W'.cell? ⟨g, j * 2 + 1, none⟩ = some (.string ⟨p.2.toArray⟩))) (by kernel_rfl) (⟨y0, y1⟩) (fun hHeld => ?_)
     generalize wr.drew = wd at *
     refine tk 0 ?_
     refine tk 2 ?_
     refine tk 3 ?_
     refine tk 4 ?_
     refine tk 5 ?_
     refine tk 6 ?_
     refine tk 7 ?_
     refine tk 8 ?_
     refine tk 9 ?_
     refine tk 10 ?_
     refine tk 11 ?_
     refine tk 12 ?_
     refine tk 13 ?_
     refine tk 14 ?_
     refine tk 15 ?_
     refine tk 16 ?_
     refine tk 17 ?_
     refine wpAnyH_ready (rs := [1, 18]) (by kernel_rfl) (by simp) ?_
     refine (AllReadyH.cons (o := _) rfl (fun K hK => ?_) (AllReadyH.cons (o := _) rfl (fun K hK => ?_) AllReadyH.nil))
     ·refine zf6 rfl (.slice vao us.length vco) (by first | (have := hO3; go_simp; done) | (have := (uk HD7.out.inv).2.2.2; go_simp; done) | (have := (uk HA.out.inv).2.2.2; go_simp; done)) ?_
      try dsimp only
      refine hK.out _ _ ?_ (fun hHeld => nx ?_)
      ·exact hHeld
      clear hK K
      refine rd 18 fun K hK => ?_
      go_simp
      refine (zj4 b (k + 10 + 3 * j) p.1 wd (HMW.out _ HGD.out) HTD.out (by have := HJ.out; omega) HPKp.out.1).mono ?_
      rintro e w7 ⟨u, its, rfl, hu, hok, hl1, how, ht7, hg7⟩
      obtain ⟨up, uq, rfl⟩ := hu.slice
      unfold setV
      have HD7 := zuy (HDD.out.tape hg7 HBB.out)
      have hbZ : Below w7.heap.size w7 (w7.alloc (.cells #[.int .i64 p.1, .string ⟨p.2.toArray⟩, .int .i64 p.1, .slice up its.length uq] 50)) := (zu1 _ w7).alloc (zu0 _) _
      have HA := zuy (HD7.out.call hbZ)
      have HZ7 := zuy hg7.size
      have HP8 : Hid (FOk (w7.alloc (.cells #[.int .i64 p.1, .string ⟨p.2.toArray⟩, .int .i64 p.1, .slice up its.length uq] 50)) (.slice vao us.length vco) ((⟨p.1, p.2, p.1, its⟩, ⟨up, its.length, uq⟩) : Fs)) := zuy ⟨⟨HPN.out, yo (V.wu hok), Nat.le_trans (V.wu hok).len (by decide)⟩, rfl, hu.below hbZ, fun _ c hc e => by have := how c hc; have := (HRWo.out c e).1; omega⟩
      have HOW8 : Hid (∀ c, (Value.slice up its.length uq).ownBlock = some c -> O < c) := zuy (fun c hc => by have := how c hc; have := HDD.out.lt; omega)
      have HNW : Hid (∀ j u, (fE ((⟨p.1, p.2, p.1, its⟩, ⟨up, its.length, uq⟩) : Fs))[j]? = some u -> (w7.alloc (.cells #[.int .i64 p.1, .string ⟨p.2.toArray⟩, .int .i64 p.1, .slice up its.length uq] 50)).cell? ⟨w7.heap.size, j, none⟩ = some u) := zuy (fun j u hj => by rw [zc, if_pos rfl]; simpa [fE, Sl.v] using hj)
      have HSO : Hid (V.okR p.1 its = true /\ 1 ≤ its.length) := zuy ⟨hok, hl1⟩
      have HT8 := zuy (ht7.below hbZ)
      have HG7 := zuy hg7
      try dsimp only
      refine hK.out _ _ ?_ (fun hHeld => nx ?_)
      ·(try dsimp only); exact ⟨qj hg7 HGB.out hHeld.1, qj hg7 HGB.out hHeld.2⟩
      clear hK K
      refine tk 19 ?_
      refine rd 20 fun K hK => ?_
      go_simp
      refine hK.out _ _ ?_ (fun hHeld => nx ?_)
      ·exact zv7
      exact zu5
     ·go_simp
      refine (zj4 b (k + 10 + 3 * j) p.1 wd (HMW.out _ HGD.out) HTD.out (by have := HJ.out; omega) HPKp.out.1).mono ?_
      rintro e w7 ⟨u, its, rfl, hu, hok, hl1, how, ht7, hg7⟩
      obtain ⟨up, uq, rfl⟩ := hu.slice
      unfold setV
      have HD7 := zuy (HDD.out.tape hg7 HBB.out)
      have hbZ : Below w7.heap.size w7 (w7.alloc (.cells #[.int .i64 p.1, .string ⟨p.2.toArray⟩, .int .i64 p.1, .slice up its.length uq] 50)) := (zu1 _ w7).alloc (zu0 _) _
      have HA := zuy (HD7.out.call hbZ)
      have HZ7 := zuy hg7.size
      have HP8 : Hid (FOk (w7.alloc (.cells #[.int .i64 p.1, .string ⟨p.2.toArray⟩, .int .i64 p.1, .slice up its.length uq] 50)) (.slice vao us.length vco) ((⟨p.1, p.2, p.1, its⟩, ⟨up, its.length, uq⟩) : Fs)) := zuy ⟨⟨HPN.out, yo (V.wu hok), Nat.le_trans (V.wu hok).len (by decide)⟩, rfl, hu.below hbZ, fun _ c hc e => by have := how c hc; have := (HRWo.out c e).1; omega⟩
      have HOW8 : Hid (∀ c, (Value.slice up its.length uq).ownBlock = some c -> O < c) := zuy (fun c hc => by have := how c hc; have := HDD.out.lt; omega)
      have HNW : Hid (∀ j u, (fE ((⟨p.1, p.2, p.1, its⟩, ⟨up, its.length, uq⟩) : Fs))[j]? = some u -> (w7.alloc (.cells #[.int .i64 p.1, .string ⟨p.2.toArray⟩, .int .i64 p.1, .slice up its.length uq] 50)).cell? ⟨w7.heap.size, j, none⟩ = some u) := zuy (fun j u hj => by rw [zc, if_pos rfl]; simpa [fE, Sl.v] using hj)
      have HSO : Hid (V.okR p.1 its = true /\ 1 ≤ its.length) := zuy ⟨hok, hl1⟩
      have HT8 := zuy (ht7.below hbZ)
      have HG7 := zuy hg7
      try dsimp only
      refine hK.out _ _ ?_ (fun hHeld => nx ?_)
      ·(try dsimp only); exact ⟨qj hg7 HGB.out hHeld.1, qj hg7 HGB.out hHeld.2⟩
      clear hK K
      refine tk 19 ?_
      refine wpAnyH_ready (rs := [1, 20]) (by kernel_rfl) (by simp) ?_
      refine (AllReadyH.cons (o := _) rfl (fun K hK => ?_) (AllReadyH.cons (o := _) rfl (fun K hK => ?_) AllReadyH.nil))
      ·refine zf6 rfl (.slice vao us.length vco) (by first | (have := hO3; go_simp; done) | (have := (uk HD7.out.inv).2.2.2; go_simp; done) | (have := (uk HA.out.inv).2.2.2; go_simp; done)) ?_
       try dsimp only
       refine hK.out _ _ ?_ (fun hHeld => nx ?_)
       ·exact hHeld
       clear hK K
       refine rd 20 fun K hK => ?_
       go_simp
       refine hK.out _ _ ?_ (fun hHeld => nx ?_)
       ·exact zv7
       exact zu5
      ·go_simp
       refine hK.out _ _ ?_ (fun hHeld => nx ?_)
       ·exact zv7
       clear hK K
       refine rd 1 fun K hK => ?_
       refine zf6 rfl (.slice vao us.length vco) (by first | (have := hO3; go_simp; done) | (have := (uk HD7.out.inv).2.2.2; go_simp; done) | (have := (uk HA.out.inv).2.2.2; go_simp; done)) ?_
       try dsimp only
       refine hK.out _ _ ?_ (fun hHeld => nx ?_)
       ·exact hHeld
       exact zu5
    ·obtain rfl : j = l.length := by omega
     have hc4 := uk HDI.out.inv
     obtain ⟨z0, z1, z2, z3⟩ := hc4
     have HTE := zuy ht
     rw [List.take_length] at HMP
     clear hrow ht hg hvi hlt
     go_wp2_with (first | (refine ku rfl qt _ _ rfl w.heap.size #[.string ⟨#[]⟩, .int .i64 0, .int .i64 0, .slice none 0 0] 41 HDI.out.zero rfl (.string ⟨id.toArray⟩) (.int .i64 (1 + (r1 : Int))) (.int .i64 (1 + (r2 : Int))) (.slice vao us.length vco) ⟨rfl, rfl, rfl, rfl⟩ rfl rfl ?_) | fail)
     refine bodyPost_ret (v := .agg #[.string ⟨id.toArray⟩, .int .i64 (1 + (r1 : Int)), .int .i64 (1 + (r2 : Int)), .slice vao us.length vco]) (zhj Tryz.results20 rfl (zdb Tryz.underlying41 qt (setRow_heap _ _ _ _ _ _ HDI.out.zero))) rfl ?_
     have hbase := HDI.out.base
     have hbb := HBB.out
     have hgr := qd wr w.heap.size #[.string ⟨id.toArray⟩, .int .i64 (1 + (r1 : Int)), .int .i64 (1 + (r2 : Int)), .slice vao us.length vco]
     have hlen := HUS.out
     have hl3 := HL3.out
     refine ⟨⟨id, 1 + r1, 1 + r2, us.map (·.1)⟩, .slice vao us.length vco, rfl, ⟨HID.out.1, HID.out.2, by show (1 : Int) ≤ 1 + (r1 : Int); omega, by show 1 + (r1 : Int) ≤ 3; have := HR12.out.1; omega, by show (1 : Int) ≤ 1 + (r2 : Int); omega, by show 1 + (r2 : Int) ≤ 10; have := HR12.out.2; omega, by rw [List.length_map]; omega, fun a ha => ?_, ?_⟩, ?_, ?_, zd9 HGI.out hgr (zu0 _)⟩
     ·obtain ⟨q, hq, rfl⟩ := List.mem_map.1 ha
      exact HSN.out q hq
     ·show V.Asc ((us.map (·.1)).map V.pk)
      rw [List.map_map]
      have h := HMP.out
      rw [show (V.pk ∘ fun x : Fs => x.1) = fun q => V.pk q.1 from rfl, h]
      exact HAS.out
     ·intro W hW
      have hrk := HDI.out.row.kept hgr (HDI.out.rowNe HDI.out.zero (by decide)) (fun p hp c hc => by have := HDI.out.own p hp c hc; omega)
      exact (hrk.kept hW (fun e => by have := GRow.block hrk.row _ e; omega) (fun p hp c hc => by have := HDI.out.own p hp c hc; omega)).affs
     ·exact (HTE.out.grown hgr (by intro e; cases e; omega) (by intro c e; cases e; omega)).le (by omega)
theorem zg4 (b k : Nat) (w : World) (hm : zg w) (h : Tape w b k) (hk : k ≤ 800000) :
  Calls Tryz.prog 20 #[.pointer (some ⟨b, 0, none⟩)] w (AdvPost b k w) :=
 (zoh b k w hm h hk).mono fun _ _ ⟨x, u, he, hx, hu, ht, hg⟩ => ⟨x, u, he, hx, hu _ (World.grownBy.refl _ _), ht, hg⟩
open Go.RowKit
open Go.RowKit
noncomputable def zeh (n : Int) (a : List V.Itv) (m : Int) (b : List V.Itv) : Bool := @decide (n = m /\ a = b) (Classical.propDecidable _)
theorem zd8 {n m : Int} {a b : List V.Itv} : zeh n a m b = true ↔ n = m /\ a = b := by
 unfold zeh
 exact @decide_eq_true_iff _ (Classical.propDecidable _)
theorem zi5 {n m : Int} {a b : List V.Itv} (h : ¬ (n = m /\ a = b)) : zeh n a m b = false := by
 rcases hs : zeh n a m b with _ | _
 ·rfl
 ·exact absurd (zd8.1 hs) h
def eqI (x y : V.Itv) : Bool := x.lo == y.lo && (x.lk == y.lk && (x.hi == y.hi && x.hk == y.hk))
theorem zs3 {x y : V.Itv} : eqI x y = true ↔ x = y := by
 obtain ⟨a, b, c, d⟩ := x
 obtain ⟨e, f, g, h⟩ := y
 simp [eqI]
theorem ztw : Tryz.prog.eqGuardType Tryz.prog.depth 120 = false := by kernel_rfl
theorem eq_itv (x y : V.Itv) (w : World) : (Op.equalIn 10000 120 (.agg #[.string ⟨x.lo.toArray⟩, .int .i64 x.lk, .string ⟨x.hi.toArray⟩, .int .i64 x.hk]) (.agg #[.string ⟨y.lo.toArray⟩, .int .i64 y.lk, .string ⟨y.hi.toArray⟩, .int .i64 y.hk])).run Tryz.prog w = .ok (eqI x y) w := by
 rw [run_equalIn_agg w 9999 120 _ _ (by kernel_rfl) (by kernel_rfl)]
 unfold Program.fieldsOf
 rw [Tryz.underlying120]
 simp only [Op.eqFields]
 simp [go_sem]
 unfold eqI
 by_cases h1 : x.lo = y.lo
 ·by_cases h2 : x.lk = y.lk
  ·by_cases h3 : x.hi = y.hi
   ·by_cases h4 : x.hk = y.hk
    ·simp [h1, h2, h3, h4]
    ·simp [h1, h2, h3, h4]
   ·simp [h1, h2, h3]
  ·simp [h1, h2]
 ·simp [h1]
theorem neq_itv (x y : V.Itv) (w : World) : (binOp .neq 120 (.agg #[.string ⟨x.lo.toArray⟩, .int .i64 x.lk, .string ⟨x.hi.toArray⟩, .int .i64 x.hk]) (.agg #[.string ⟨y.lo.toArray⟩, .int .i64 y.lk, .string ⟨y.hi.toArray⟩, .int .i64 y.hk])).run Tryz.prog w = .ok (.bool (!eqI x y)) w := by
 rw [run_neq_struct, eq_itv]
 rfl
theorem zxw {P : Prop} (h : P := by
 go_enter Tryz.func79, Tryz.ntmps79
 go_wp2
 go_ret
 exact ⟨zd HN.out.symm, HB0.out⟩) : P := h
theorem zfj (n m : Int) (va vb : Value) (a b : List V.Itv) (w : World) (hva : Itvs w va a) (hvb : Itvs w vb b) (hla : a.length ≤ maxLen) (_hlb : b.length ≤ maxLen) :
  Calls Tryz.prog 79 #[setV n va, setV m vb] w fun e w' => e = .returned (.bool (zeh n a m b)) /\ Below w.heap.size w w' := by
 have HVA := zuy hva
 have HVB := zuy hvb
 obtain ⟨aa, ac, rfl⟩ := hva.slice
 obtain ⟨ba, bc, rfl⟩ := hvb.slice
 unfold maxLen at hla _hlb
 obtain ⟨hb0, hc0, _, hz0⟩ := zb1 w #[.int .i64 n, .slice aa a.length ac] #[.int .i64 m, .slice ba b.length bc] 48 48
 have c0 : ((w.alloc (.cells #[.int .i64 n, .slice aa a.length ac] 48)).alloc (.cells #[.int .i64 m, .slice ba b.length bc] 48)).cell? ⟨w.heap.size, 0, none⟩ = some (.int .i64 n) := by simp [zc]
 have c1 : ((w.alloc (.cells #[.int .i64 n, .slice aa a.length ac] 48)).alloc (.cells #[.int .i64 m, .slice ba b.length bc] 48)).cell? ⟨w.heap.size, 1, none⟩ = some (.slice aa a.length ac) := by simp [zc]
 have d0 : ((w.alloc (.cells #[.int .i64 n, .slice aa a.length ac] 48)).alloc (.cells #[.int .i64 m, .slice ba b.length bc] 48)).cell? ⟨w.heap.size + 1, 0, none⟩ = some (.int .i64 m) := by rw [hc0]; rfl
 have d1 : ((w.alloc (.cells #[.int .i64 n, .slice aa a.length ac] 48)).alloc (.cells #[.int .i64 m, .slice ba b.length bc] 48)).cell? ⟨w.heap.size + 1, 1, none⟩ = some (.slice ba b.length bc) := by rw [hc0]; rfl
 have HB0 := zuy hb0
 clear hva hvb hc0 hb0 hz0
 unfold setV
 by_cases hnm : n = m
 ·subst hnm
  by_cases hlen : a.length = b.length
  ·have hq : ((a.length : Int) != (b.length : Int)) = false := by simp [hlen]
   go_enter Tryz.func79, Tryz.ntmps79
   have HC := zuy (And.intro c1 d1)
   have HLEN := zuy hlen
   clear hlen
   go_wp2_with fail
   clear c0 c1 d0 d1
   generalize (w.alloc (.cells #[.int .i64 n, .slice aa a.length ac] 48)).alloc (.cells #[.int .i64 n, .slice ba b.length bc] 48) = w0 at *
   go_loopw [5] (fun iv wx => ∃ k : Nat, k ≤ a.length /\ iv = .int .i64 k /\ (∀ i, i < k -> a[i]? = b[i]?) /\ Below w0.heap.size w0 wx) (fun iv _ => a.length - (intOf iv).toNat)
   case atStart => exact ⟨0, Nat.zero_le _, rfl, fun i hi => by omega, zu1 _ _⟩
   case round =>
    obtain ⟨k, hk, rfl, hz, hbx⟩ := hrel
    have HZ := zuy hz
    have HBX := zuy hbx
    have HBF := zuz HB0 hbx
    have e1 := za hbx HC.out.1
    have e2 := za hbx HC.out.2
    clear hz hbx
    by_cases hlt : k < a.length
    ·have hlt2 : k < b.length := by have := HLEN.out; omega
     obtain ⟨g1, o1, rfl, hg1, hx⟩ := HVA.out.at k hlt
     obtain ⟨g2, o2, rfl, hg2, hy⟩ := HVB.out.at k hlt2
     obtain ⟨x0, x1, x2, x3⟩ := hx.below hg1 HBF.out
     obtain ⟨y0, y1, y2, y3⟩ := hy.below hg2 HBF.out
     have hi1 : (0 : Int) ≤ (k : Int) := by omega
     have hi2 : (k : Int) < (a.length : Int) := by omega
     have hi3 : (k : Int) < (b.length : Int) := by omega
     have HYES : Hid (eqI a[k] b[k] = true -> ∀ i, i < k + 1 -> a[i]? = b[i]?) := zuy (fun hq i hi => by
       by_cases h : i < k
       · exact HZ.out i h
       · obtain rfl : i = k := by omega
         rw [List.getElem?_eq_getElem hlt, List.getElem?_eq_getElem hlt2, zs3.1 hq])
     have HNO : Hid (eqI a[k] b[k] = false -> zeh n a n b = false) := zuy (fun hq => zi5 (fun hs => by
       have : a[k]? = b[k]? := by rw [hs.2]
       rw [List.getElem?_eq_getElem hlt, List.getElem?_eq_getElem hlt2] at this
       rw [zs3.2 (Option.some.inj this)] at hq
       cases hq))
     clear hx hy
     have hgd := ztw
     have hneq := neq_itv a[k] b[k]
     generalize a[k] = x at *
     generalize b[k] = y at *
     rcases hxy : eqI x y with _ | _
     ·have HN := zuy (HNO.out hxy)
      simp only [hxy] at hneq
      clear hxy
      go_wp2_with fail
      go_quiet (fail)
      rename_i nq
      go_wp2
      go_ret
      exact ⟨zd HN.out.symm, below_drewN HBF.out nq⟩
     ·have HY := zuy (HYES.out hxy)
      simp only [hxy] at hneq
      clear hxy
      go_wp2_with fail
      go_quiet (fail)
      rename_i nq
      go_wp2
      go_roundw
      case rel => exact ⟨k + 1, by omega, by go_num, HY.out, below_drewN HBX.out nq⟩
      case measure => simp [intOf]; omega
    ·obtain rfl : k = a.length := by omega
     have HS : Hid (zeh n a n b = true) := zuy (zd8.2 ⟨rfl, List.ext_getElem? (fun i => by
       by_cases h : i < a.length
       · exact HZ.out i h
       · rw [List.getElem?_eq_none (by omega), List.getElem?_eq_none (by have := HLEN.out; omega)])⟩)
     go_wp2
     go_ret
     exact ⟨zd HS.out.symm, HBF.out⟩
  ·have hq : ((a.length : Int) != (b.length : Int)) = true := by rw [bne_iff_ne]; omega
   have HN : Hid (zeh n a n b = false) := zuy (zi5 (fun h => hlen (by rw [h.2])))
   clear hlen
   exact zxw
 ·have hq : (n != m) = true := by simpa using hnm
  have HN : Hid (zeh n a m b = false) := zuy (zi5 (fun h => hnm h.1))
  clear hnm
  exact zxw
end Go.Proofs.YtnhfaincdabdkaaGreatDoor
