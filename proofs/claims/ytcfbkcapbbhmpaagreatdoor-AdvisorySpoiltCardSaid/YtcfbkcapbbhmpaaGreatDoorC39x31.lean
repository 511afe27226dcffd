import Derived.Test.YtcfbkcapbbhmpaaGreatDoorC39x30
import Derived.Test.YtcfbkcapbbhmpaaGreatDoorC39x29
import Derived.Test.YtcfbkcapbbhmpaaGreatDoorC39x15
import Derived.Test.YtcfbkcapbbhmpaaGreatDoorC39x24
import Derived.Test.YtcfbkcapbbhmpaaGreatDoorC39x07
import Derived.Test.YtcfbkcapbbhmpaaGreatDoorC39x13
import Derived.Test.YtcfbkcapbbhmpaaGreatDoorC39x27
import Derived.Test.YtcfbkcapbbhmpaaGreatDoorC39x02
import Derived.Test.YtcfbkcapbbhmpaaGreatDoorCards
import Derived.Test.YtcfbkcapbbhmpaaGreatDoorTie
import Derived.Test.YtcfbkcapbbhmpaaGreatDoorRows
import Derived.ProofKit
import Derived.SliceStrings
import Derived.OpenShut
import Derived.Deep.DeepHandedRow
import Derived.Lib.LaidTab
import Derived.JoinedOf
set_option linter.all false
set_option maxRecDepth 100000
set_option maxHeartbeats 6400000
namespace Go.Proofs.YtcfbkcapbbhmpaaGreatDoor
open Go.RowKit
theorem VInv.tape {V0 W W' : World} {N0 O b : Nat} {i r s : Value} {v : Value} {us : List Fs} (h : VInv V0 N0 O i r s v us W) (hg : W.grownBy W' (some b)) (hb : b < N0) : VInv W' N0 O i r s v us W' := by
 have hbs := h.base
 exact ⟨h.row.kept hg (fun e => by have := GRow.block h.row.row _ e; omega) (fun p hp c hc => by have := h.own p hp c hc; omega), (hg.block O h.lt (by intro e; cases e; omega)).trans h.inv, (hg.block N0 (Array.getElem?_eq_some_iff.1 h.zero).1 (by intro e; cases e; omega)).trans h.zero, h.own, zwh _ _, hbs⟩
section
variable {α : Type} {enc : α -> List Value} {k : Nat} {T : TypeId}
theorem GRow.kept2 {w w' : World} {N g : Nat} {v : Value} {l : List α} {row : Option Nat} (h : GRow T k enc w N v l) (hv : ∀ c, v.ownBlock = some c -> c = g) (hg : w.grownBy w' row) (hr : row ≠ some g) : GRow T k enc w' N v l := by
 refine ⟨h.1, ?_⟩
 rcases h.2 with h | ⟨g', cap, cur, rfl, hb, hgg, rest⟩
 ·exact .inl h
 ·refine .inr ⟨g', cap, cur, rfl, hb, ?_, rest⟩
  have : g' = g := hv _ rfl
  subst this
  rw [hg.block g' (Array.getElem?_eq_some_iff.1 hgg).1 (fun e => hr e.symm)]
  exact hgg
end
theorem GRow.heap {α : Type} {enc : α -> List Value} {k : Nat} {T : TypeId} {w : World} {N g n c : Nat} {l : List α} (h : GRow T k enc w N (.slice (some ⟨g, 0, none⟩) n c) l) : ∃ cur fr, w.heap[g]? = some (.cells cur T fr) := by
 rcases h.2 with ⟨h, _⟩ | ⟨g', cap, cur, e, hb, hgg, _⟩
 ·cases h
 ·cases e
  exact ⟨_, _, hgg⟩
theorem zai {w w6 W7 : World} {b : Nat} {row : Option Nat} (h : w.grownBy w6 (some b)) (k : w6.grownBy W7 row) (hr : ∀ c, row = some c -> w.heap.size ≤ c) : w.grownBy W7 (some b) :=
 ⟨k.os.trans h.os, k.tape.trans h.tape, k.output.trans h.output, Nat.le_trans h.size k.size, fun i hi hq => (k.block i (Nat.lt_of_lt_of_le hi h.size) (fun e => by have := hr i e.symm; omega)).trans (h.block i hi hq)⟩
def zc7 : List V.Bs := [[122, 108, 105, 98], [115, 115, 108], [108, 105, 98, 115, 47, 112, 110, 103], [97]]
def PkOk (p : Int × V.Bs) : Prop := V.scheme p.1 = true /\ p.2 ∈ zc7
theorem znj {s : V.Bs} (h : s ∈ zc7) : V.xg s = true /\ s.length ≤ 8 := by
 simp only [zc7, List.mem_cons, List.not_mem_nil, or_false] at h
 rcases h with e | e | e | e <;> (rw [e]; decide)
theorem PkOk.sound {p : Int × V.Bs} (h : PkOk p) {its : List V.Itv} (ho : V.okR p.1 its = true) (hl : 1 ≤ its.length) : V.kh ⟨p.1, p.2, p.1, its⟩ = true := by
 unfold V.kh V.zdr
 simp only [(znj h.2).1, ho, Bool.true_and, Bool.and_true, decide_true, decide_eq_true_eq]
 exact hl
def AdvPost (b k : Nat) (w : World) (e : Ending) (w' : World) : Prop :=
 ∃ x u, e = .returned (advV x u) /\ V.MadeV x /\ Affs w' u x.aff /\ Tape w' b (k + 30) /\ w.grownBy w' (some b)
def AdvPostK (b k : Nat) (w : World) (e : Ending) (w' : World) : Prop :=
 ∃ x u, e = .returned (advV x u) /\ V.MadeV x /\ (∀ W, w'.grownBy W (some b) -> Affs W u x.aff) /\ Tape w' b (k + 30) /\ w.grownBy w' (some b)
def AdvPostF (b k : Nat) (w : World) (e : Ending) (w' : World) : Prop :=
 ∃ x u, ∃ us : List Fs, e = .returned (advV x u) /\ V.MadeV x /\ x.aff = us.map (·.1) /\ (∀ W, w'.grownBy W (some b) -> FRow w.heap.size W u us) /\ Tape w' b (k + 30) /\ w.grownBy w' (some b)
theorem zwo {P : Prop} (h : P := by
 clear hK K
 refine rd 21 fun K hK => ?_
 refine yc zee (by decide) zf1 zla (by decide) rfl _ _ 27 rfl Tryz.underlying27 O (.slice vao us.length vco) us rfl HA.out.row.row w7.heap.size ((⟨p.1, p.2, p.1, its⟩, ⟨up, its.length, uq⟩) : Fs) rfl HNW.out (by have := HUL.out; omega) (Nat.le_of_lt HA.out.lt) ?_
 intro v8 w8 hr8 hg8 ho8
 obtain ⟨va8, vc8, rfl, hc8, hf8, hM9⟩ := HA.out.fin hr8 hg8 ho8 HP8.out HOW8.out
 try dsimp only
 refine hK.out _ _ ?_ (fun hHeld => nx ?_)
 ·(try dsimp only); exact ⟨zo hg8 HN1.out hHeld.1, zo hg8 HN1.out hHeld.2⟩
 clear hK K
 refine tk 22 ?_
 refine rd 23 fun K hK => ?_
 refine zbn rfl 27 _ _ rfl O 3 rfl (.slice va8 (us.length + 1) vc8) rfl _ hc8 hf8 zah rfl ?_
 have hgs := yd w8 O 3 (.slice va8 (us.length + 1) vc8)
 generalize w8.setCell ⟨O, 3, none⟩ (.slice va8 (us.length + 1) vc8) = w9 at *
 try dsimp only
 refine hK.out _ _ ?_ (fun hHeld => nx ?_)
 ·(try dsimp only); exact ⟨zo hgs HN2.out hHeld.1, zo hgs HN2.out hHeld.2⟩
 clear hK K
 refine wpAnyH_done (by kernel_rfl) ?_ _
 have HT9 := zwe ((HT8.out.grown hg8 HN3.out HN4.out).grown hgs HN5.out HN6.out)
 have HR9 := zwe (((GRow.below (HRD.out.kept HG7.out (fun c e => by cases e; omega)) ((zwh _ _).alloc (zwg _) _)).kept2 HVG.out hg8 HN1.out).kept2 HVG.out hgs HN2.out)
 have HG9 := zwe (zai (zai ((HGD.out.trans HG7.out).trans (qw ((zwh _ _).alloc (zwg _) _) (some b))) hg8 HN7.out) hgs HN8.out)
 clear hHeld hO3 hgs hg8 hr8 ho8 hg7 ht7 hu how hok hl1
 go_wp2
 go_roundw
 case rel => exact ⟨j + 1, _, us ++ [((⟨p.1, p.2, p.1, its⟩, ⟨up, its.length, uq⟩) : Fs)], _, by omega, by rw [List.length_append, HUS.out]; rfl, by go_num, by rw [List.map_append, HMP.out, HTK.out]; rfl, fun q hq => by rcases List.mem_append.1 hq with h | h; exact HSN.out q h; (rw [List.mem_singleton.1 h]; exact HPKp.out.sound HSO.out.1 HSO.out.2), HR9.out, HT9.out.le (by omega), HG9.out, hM9⟩
 case measure => simp [intOf]; omega) : P := h
theorem zx9 {P : Prop} (h : P := by
 (try dsimp only); exact ⟨zb ((zwh _ _).alloc (zwg _) _) hHeld.1, zb ((zwh _ _).alloc (zwg _) _) hHeld.2⟩) : P := h
theorem zo7 (b k : Nat) (w : World) (hm : zg w) (h : Tape w b k) (hk : k ≤ 800000) :
  Calls Tryz.prog 5 #[.pointer (some ⟨b, 0, none⟩)] w (AdvPostF b k w) := by
 obtain ⟨hb0, hk0, hz0⟩ := zg3 w
 have HM0 := zwe (hm.below hb0)
 have HT0 := zwe (h.below hb0)
 have HK0 := zwe hk0
 have HZ0 := zwe hz0
 have HGW := zwe (qw hb0 (some b))
 have HBB := zwe h.lt
 have HMW : Hid (∀ W, w.grownBy W (some b) -> zg W) := zwe (fun W hg => hm.tape h hg)
 clear hb0 hk0 hz0 hm h
 go_enter Tryz.func5, Tryz.ntmps5
 go_wp2_with fail
 generalize w.alloc (.cells #[.string ⟨#[]⟩, .int .i64 0, .int .i64 0, .slice none 0 0] 29) = w0 at *
 refine (ztk w0).mono ?_
 rintro e w1 ⟨rfl, hw1⟩
 have hb1 : Below w0.heap.size w0 w1 := by rw [hw1]; exact (zwh _ w0).alloc (zwg _) _
 have hc1 : ∀ j, j < 3 -> w1.cell? ⟨w0.heap.size, 0 + j, none⟩ = some (.string ⟨(V.zjx.getD j []).toArray⟩) := fun j hj => by
  rw [hw1, World.cell?_alloc_new, Nat.zero_add]
  have h3 : j = 0 ∨ j = 1 ∨ j = 2 := by omega
  rcases h3 with rfl | rfl | rfl <;> rfl
 clear hw1
 go_wp2_with fail
 refine (zcp b k w1 ⟨w0.heap.size, 0, none⟩ 3 V.zjx (HT0.out.below hb1) (by omega) (by decide) (by decide) (by have := HT0.out.lt; have := HBB.out; have := HZ0.out; simp; omega) rfl hc1).mono ?_
 rintro e w2 ⟨id, hid, rfl, ht2, hg2⟩
 have HID := zwe (V.madeId hid)
 have HM2 := zwe ((HM0.out.below hb1).tape (HT0.out.below hb1) hg2)
 have HT2 := zwe ht2
 have HG2 := zwe ((HGW.out.trans (qw hb1 (some b))).trans hg2)
 have HG02 := zwe ((qw hb1 (some b)).trans hg2)
 clear hb1 hc1 hid ht2 hg2 HM0 HT0
 go_wp2_with fail
 refine (zd3 b (k + 1) 3 w2 HT2.out (by omega) (by decide) (by decide)).mono ?_
 rintro e w3 ⟨r1, hr1, rfl, ht3, hg3⟩
 have HM3 := zwe (HM2.out.tape HT2.out hg3)
 have HT3 := zwe ht3
 have HG3 := zwe (HG2.out.trans hg3)
 have HG03 := zwe (HG02.out.trans hg3)
 have e1 : IntKind.i64.wrap (1 + (r1 : Int)) = 1 + (r1 : Int) := IntWalk.i64_in _ (by omega)
 clear ht3 hg3 HM2 HT2 HG2 HG02
 go_wp2_with fail
 refine (zd3 b (k + 2) 10 w3 HT3.out (by omega) (by decide) (by decide)).mono ?_
 rintro e w4 ⟨r2, hr2, rfl, ht4, hg4⟩
 have HM4 := zwe (HM3.out.tape HT3.out hg4)
 have HT4 := zwe ht4
 have HG4 := zwe (HG3.out.trans hg4)
 have HG04 := zwe (HG03.out.trans hg4)
 have e2 : IntKind.i64.wrap (1 + (r2 : Int)) = 1 + (r2 : Int) := IntWalk.i64_in _ (by omega)
 clear ht4 hg4 HM3 HT3 HG3 HG03
 have HR12 : Hid ((r1 : Int) < 3 /\ (r2 : Int) < 10) := zwe ⟨hr1, hr2⟩
 have hK4 : w4.heap[w.heap.size]? = some (.cells #[.string ⟨#[]⟩, .int .i64 0, .int .i64 0, .slice none 0 0] 29 (0, 0)) := (HG04.out.block _ (by have := HZ0.out; omega) (by intro e; cases e; have := HBB.out; omega)).trans HK0.out
 have hz4 : w.heap.size + 1 ≤ w4.heap.size := by have := HG04.out.size; have := HZ0.out; omega
 have hb5 : Below w4.heap.size w4 (w4.alloc (.cells #[.string ⟨id.toArray⟩, .int .i64 (1 + (r1 : Int)), .int .i64 (1 + (r2 : Int)), .slice none 0 0] 29)) := (zwh _ w4).alloc (zwg _) _
 have HV5 : Hid (VInv w4 w.heap.size w4.heap.size (.string ⟨id.toArray⟩) (.int .i64 (1 + (r1 : Int))) (.int .i64 (1 + (r2 : Int))) (.slice none 0 0) [] (w4.alloc (.cells #[.string ⟨id.toArray⟩, .int .i64 (1 + (r1 : Int)), .int .i64 (1 + (r2 : Int)), .slice none 0 0] 29))) := zwe ⟨FRow.nil _ _, heap_alloc_new w4 _, (hb5.block _ (by omega)).trans hK4, (fun p hp => by simp at hp), hb5, hz4⟩
 have HM5 := zwe (HM4.out.below hb5)
 have HT5 := zwe (HT4.out.below hb5)
 have HG5 := zwe (HG4.out.trans (qw hb5 (some b)))
 clear hb5 hK4 HM4 HT4 HG4 HG04 HK0 HGW HZ0
 go_wp2_with fail
 clear e1 e2
 generalize w4.alloc (.cells #[.string ⟨id.toArray⟩, .int .i64 (1 + (r1 : Int)), .int .i64 (1 + (r2 : Int)), .slice none 0 0] 29) = w5 at *
 generalize w4.heap.size = O at *
 refine (zd3 b (k + 3) 4 w5 HT5.out (by omega) (by decide) (by decide)).mono ?_
 rintro e w6 ⟨r3, hr3, rfl, ht6, hg6⟩
 have HM6 := zwe (HM5.out.tape HT5.out hg6)
 have HT6 := zwe ht6
 have HG6 := zwe (HG5.out.trans hg6)
 have HV6 := zwe (HV5.out.tape hg6 HBB.out)
 clear ht6 hg6 HM5 HT5 HG5 HV5 hz4
 go_wp2_with fail
 go_loopw [4, 5] (fun lv nv W => ∃ (j : Nat) (l : List (Int × V.Bs)) (V0 : World), j ≤ 3 /\ nv = .int .i64 j /\ l.length + j ≤ 3 /\ V.Asc l /\ (∀ p ∈ l, PkOk p) /\ GRow 58 2 pE W (b + 1) lv l /\ Tape W b (k + 10 - 2 * j) /\ w.grownBy W (some b) /\ zg W /\ VInv V0 w.heap.size O (.string ⟨id.toArray⟩) (.int .i64 (1 + (r1 : Int))) (.int .i64 (1 + (r2 : Int))) (.slice none 0 0) [] W) (fun _ nv _ => (intOf nv).toNat)
 case atStart => exact ⟨r3, [], w6, by omega, rfl, by simp; omega, List.Pairwise.nil, (fun p hp => by simp at hp), GRow.nil _ _, HT6.out.le (by omega), HG6.out, HM6.out, HV6.out⟩
 case round =>
  obtain ⟨j, l, V0, hj, rfl, hjl, hasc, hpk, hrow, ht, hg, hmx, hvi⟩ := hrel
  have HAS := zwe hasc
  have HPK := zwe hpk
  have HRW := zwe hrow
  have HT := zwe ht
  have HG := zwe hg
  have HM := zwe hmx
  have HVI := zwe hvi
  have HJL := zwe hjl
  obtain ⟨la, lc, hlv⟩ := hrow.slice
  subst hlv
  clear hasc hpk hrow ht hg hmx hvi hjl HM6 HT6 HG6 HV6
  by_cases hpos : 0 < j
  ·have i1 : (0 : Int) < (j : Int) := by omega
   have wr1 : IntKind.i64.wrap ((j : Int) - 1) = (j : Int) - 1 := IntWalk.i64_in _ (by omega)
   go_wp2_with fail
   refine (zd3 b _ 3 wr HT.out (by omega) (by decide) (by decide)).mono ?_
   rintro e wa ⟨ra, hra, rfl, hta, hga⟩
   have HTA := zwe hta
   have HMA := zwe (HM.out.tape HT.out hga)
   have HGA := zwe (HG.out.trans hga)
   have HVA := zwe (HVI.out.tape hga HBB.out)
   have HRA := zwe (HRW.out.kept hga (fun c e => by cases e; omega))
   have e1 : IntKind.i64.wrap (1 + (ra : Int)) = 1 + (ra : Int) := IntWalk.i64_in _ (by omega)
   have HSC : Hid (V.scheme (1 + (ra : Int)) = true) := zwe (by
     have h3 : ra = 0 ∨ ra = 1 ∨ ra = 2 := by omega
     rcases h3 with rfl | rfl | rfl <;> rfl)
   clear hta hga HT HM HG HVI HRW hra
   go_wp2_with fail
   refine (zq2 wa).mono ?_
   rintro e wb ⟨rfl, hwb⟩
   have hbb : Below wa.heap.size wa wb := by rw [hwb]; exact (zwh _ wa).alloc (zwg _) _
   have hcb : ∀ j, j < 4 -> wb.cell? ⟨wa.heap.size, 0 + j, none⟩ = some (.string ⟨(zc7.getD j []).toArray⟩) := fun j hj => by
    rw [hwb, World.cell?_alloc_new, Nat.zero_add]
    have h4 : j = 0 ∨ j = 1 ∨ j = 2 ∨ j = 3 := by omega
    rcases h4 with rfl | rfl | rfl | rfl <;> rfl
   clear hwb
   go_wp2_with fail
   refine (zcp b _ wb ⟨wa.heap.size, 0, none⟩ 4 zc7 (HTA.out.below hbb) (by omega) (by decide) (by decide) (by have := HTA.out.lt; simp; omega) rfl hcb).mono ?_
   rintro e wc ⟨nm, hnm, rfl, htc, hgc⟩
   have HTC := zwe htc
   have HMC := zwe ((HMA.out.below hbb).tape (HTA.out.below hbb) hgc)
   have HGC := zwe ((HGA.out.trans (qw hbb (some b))).trans hgc)
   have HVC := zwe ((HVA.out.call hbb).tape hgc HBB.out)
   have HRC := zwe ((GRow.below HRA.out hbb).kept hgc (fun c e => by cases e; omega))
   have HNM := zwe hnm
   have hzc : b < wc.heap.size := htc.lt
   clear htc hgc hnm hbb hcb HTA HMA HGA HVA HRA
   go_wp2_with fail
   refine (zs2 (.slice la l.length lc) l (1 + (ra : Int), nm) wc (GRow.gsl zf8 HRC.out) (by have := HJL.out; omega)).mono ?_
   rintro e wd ⟨u, rfl, hru, hbd⟩
   have HTD := zwe (HTC.out.below hbd)
   have HMD := zwe (HMC.out.below hbd)
   have HGD := zwe (HGC.out.trans (qw hbd (some b)))
   have HVD := zwe (HVC.out.call hbd)
   have HRD := zwe (GRow.weaken hru (show b + 1 ≤ wc.heap.size by omega))
   have HAD := zwe (V.addP_asc (p := (1 + (ra : Int), nm)) HAS.out)
   have HPD : Hid (∀ p ∈ V.addP (1 + (ra : Int), nm) l, PkOk p) := zwe (fun p hp => by
     rcases V.addP_mem hp with h | h
     · exact HPK.out p h
     · rw [h]; exact ⟨HSC.out, HNM.out⟩)
   have HLD := zwe (V.addP_len (p := (1 + (ra : Int), nm)) (l := l))
   clear hru hbd HTC HMC HGC HVC HRC HAS HPK hzc
   go_wp2
   go_roundw
   case rel => exact ⟨j - 1, _, _, by omega, by rw [show ((j - 1 : Nat) : Int) = (j : Int) - 1 by omega], by have := HLD.out; have := HJL.out; omega, HAD.out, HPD.out, HRD.out, HTD.out.le (by omega), HGD.out, HMD.out, HVD.out⟩
   case measure => simp [intOf]; omega
  ·have HJ0 : Hid (j = 0) := zwe (by omega)
   have i1 : ¬ (0 : Int) < (j : Int) := by omega
   have hjz : j = 0 := by omega
   rw [hjz] at HT HJL
   clear hpos hj hjz
   obtain ⟨jj, hjj⟩ : ∃ jj : Int, jj = (j : Int) := ⟨_, rfl⟩
   rw [← hjj] at i1 ⊢
   clear hjj
   have HL3 : Hid (l.length ≤ 3) := zwe (by have := HJL.out; omega)
   have hVI := HVI.out
   go_wp2_with fail
   go_loopw [6] (fun iv W => ∃ (j : Nat) (vo : Value) (us : List Fs) (V1 : World), j ≤ l.length /\ us.length = j /\ iv = .int .i64 j /\ us.map (fun q => V.pk q.1) = l.take j /\ (∀ q ∈ us, V.kh q.1 = true) /\ GRow 58 2 pE W (b + 1) (.slice la l.length lc) l /\ Tape W b (k + 10 + 3 * j) /\ w.grownBy W (some b) /\ VInv V1 w.heap.size O (.string ⟨id.toArray⟩) (.int .i64 (1 + (r1 : Int))) (.int .i64 (1 + (r2 : Int))) vo us W) (fun iv _ => l.length - (intOf iv).toNat)
   case atStart => exact ⟨0, _, [], _, Nat.zero_le _, rfl, rfl, by simp, (fun p hp => by simp at hp), HRW.out, HT.out.le (by omega), HG.out, hVI⟩
   case round =>
    obtain ⟨j, vo, us, V1, hj, hus, rfl, hmp, hsn, hrow, ht, hg, hvi⟩ := hrel
    obtain ⟨vao, vco, hvo⟩ := hvi.row.slice
    subst hvo
    have HUS := zwe hus
    have HMP := zwe hmp
    have HSN := zwe hsn
    have HJ : Hid (k ≤ 800000 /\ j ≤ 3) := zwe ⟨hk, by have := HL3.out; omega⟩
    have HDI := zwe hvi
    have HGI := zwe hg
    clear hVI hus hmp hsn HRW HT HG HM HVI
    by_cases hlt : j < l.length
    ·obtain ⟨g, cap', e, hNg, hgl, hc⟩ := GRow.at zf8 hrow j hlt
     cases e
     have y0 : wr.drew.cell? ⟨g, j * 2, none⟩ = some (.int .i64 (l[j]).1) := hc 0 _ rfl
     have y1 : wr.drew.cell? ⟨g, j * 2 + 1, none⟩ = some (.string ⟨(l[j]).2.toArray⟩) := hc 1 _ rfl
     obtain ⟨cur, fr, hgg⟩ := hrow.heap
     have HPKp := zwe (HPK.out l[j] (List.getElem_mem hlt))
     have HPN : Hid ((l[j]).2.length ≤ maxLen) := zwe (by have := (znj HPKp.out.2).2; unfold maxLen; omega)
     have HTK : Hid (l.take (j + 1) = l.take j ++ [l[j]]) := zwe (List.take_succ_eq_append_getElem hlt)
     have hbd : Below wr.heap.size wr wr.drew := (zwh _ wr).drew
     have HDD := zwe (hvi.call hbd)
     have HGD := zwe (hg.trans (qw hbd (some b)))
     have HTD := zwe (ht.below hbd)
     have HRD := zwe (GRow.below hrow hbd)
     have hO3 := (xk HDD.out.inv).2.2.2
     have HRWo : Hid (∀ c, (Value.slice vao us.length vco).ownBlock = some c -> c < wr.drew.heap.size /\ O ≤ c) := zwe (fun c e => ⟨GRow.lt HDD.out.row.row _ e, GRow.block HDD.out.row.row _ e⟩)
     have hbase := hvi.base
     have hbb := HBB.out
     have HN1 : Hid ((Value.slice vao us.length vco).ownBlock ≠ some g) := zwe (HDD.out.rowNe (hbd.block _ hgl |>.trans hgg) (by decide))
     have HN2 : Hid (some O ≠ some g) := zwe (fun e => by cases e; have h1 := hvi.inv; rw [hgg] at h1; cases h1)
     have HN3 : Hid ((Value.slice vao us.length vco).ownBlock ≠ some b) := zwe (fun e => by have := (HRWo.out _ e).2; omega)
     have HN4 : Hid (∀ b', (Value.slice vao us.length vco).ownBlock = some b' -> b < b') := zwe (fun c e => by have := (HRWo.out _ e).2; omega)
     have HN5 : Hid (some O ≠ some b) := zwe (fun e => by cases e; omega)
     have HN6 : Hid (∀ b', some O = some b' -> b < b') := zwe (fun c e => by cases e; omega)
     have HN7 : Hid (∀ c, (Value.slice vao us.length vco).ownBlock = some c -> w.heap.size ≤ c) := zwe (fun c e => by have := (HRWo.out _ e).2; omega)
     have HN8 : Hid (∀ c, some O = some c -> w.heap.size ≤ c) := zwe (fun c e => by cases e; omega)
     have HGB : Hid (some b ≠ some g) := zwe (fun e => by cases e; omega)
     have HVG : Hid (∀ c, (Value.slice (some ⟨g, 0, none⟩) l.length lc).ownBlock = some c -> c = g) := zwe (fun c hc => by simp [Value.ownBlock] at hc; exact hc.symm)
     have HUL : Hid (us.length ≤ 900000) := zwe (by have := HUS.out; have := HL3.out; omega)
     have i1 : (0 : Int) ≤ (j : Int) := by omega
     have i2 : (j : Int) < (l.length : Int) := by omega
     have wr1 : IntKind.i64.wrap ((j : Int) + 1) = (j : Int) + 1 := IntWalk.i64_in _ (by have := HL3.out; omega)
     generalize l[j] = p at *
     clear hc hgg hbd hrow ht hg hvi hbase hbb hNg hgl HDI HGI
     go_wp2_with fail
     refine wp_region_held_drew (S := (fun W' => W'.cell? ⟨g, j * 2, none⟩ = some (.int .i64 p.1) /\ W'.cell? ⟨g, j * 2 + 1, none⟩ = some (.string ⟨p.2.toArray⟩))) (by kernel_rfl) (⟨y0, y1⟩) (fun hHeld => ?_)
     generalize wr.drew = wd at *
     refine tk 0 ?_
     refine tk 2 ?_
     refine tk 3 ?_
     refine tk 4 ?_
     refine tk 5 ?_
     refine tk 6 ?_
     refine tk 7 ?_
     refine tk 8 ?_
     refine tk 9 ?_
     refine tk 10 ?_
     refine tk 11 ?_
     refine tk 12 ?_
     refine tk 13 ?_
     refine tk 14 ?_
     refine tk 15 ?_
     refine tk 16 ?_
     refine tk 17 ?_
     refine wpAnyH_ready (rs := [1, 18]) (by kernel_rfl) (by simp) ?_
     refine (AllReadyH.cons (o := _) rfl (fun K hK => ?_) (AllReadyH.cons (o := _) rfl (fun K hK => ?_) AllReadyH.nil))
     ·refine zbm rfl (.slice vao us.length vco) (by first | (have := hO3; go_simp; done) | (have := (xk HD7.out.inv).2.2.2; go_simp; done) | (have := (xk HA.out.inv).2.2.2; go_simp; done)) ?_
      try dsimp only
      refine hK.out _ _ ?_ (fun hHeld => nx ?_)
      ·exact hHeld
      clear hK K
      refine rd 18 fun K hK => ?_
      go_simp
      refine (zlt b (k + 10 + 3 * j) p.1 wd (HMW.out _ HGD.out) HTD.out (by have := HJ.out; omega) HPKp.out.1).mono ?_
      rintro e w7 ⟨u, its, rfl, hu, hok, hl1, how, ht7, hg7⟩
      obtain ⟨up, uq, rfl⟩ := hu.slice
      unfold setV
      have HD7 := zwe (HDD.out.tape hg7 HBB.out)
      have hbZ : Below w7.heap.size w7 (w7.alloc (.cells #[.int .i64 p.1, .string ⟨p.2.toArray⟩, .int .i64 p.1, .slice up its.length uq] 47)) := (zwh _ w7).alloc (zwg _) _
      have HA := zwe (HD7.out.call hbZ)
      have HZ7 := zwe hg7.size
      have HP8 : Hid (FOk (w7.alloc (.cells #[.int .i64 p.1, .string ⟨p.2.toArray⟩, .int .i64 p.1, .slice up its.length uq] 47)) (.slice vao us.length vco) ((⟨p.1, p.2, p.1, its⟩, ⟨up, its.length, uq⟩) : Fs)) := zwe ⟨⟨HPN.out, ux (V.zab hok), Nat.le_trans (V.zab hok).len (by decide)⟩, rfl, hu.below hbZ, fun _ c hc e => by have := how c hc; have := (HRWo.out c e).1; omega⟩
      have HOW8 : Hid (∀ c, (Value.slice up its.length uq).ownBlock = some c -> O < c) := zwe (fun c hc => by have := how c hc; have := HDD.out.lt; omega)
      have HNW : Hid (∀ j u, (fE ((⟨p.1, p.2, p.1, its⟩, ⟨up, its.length, uq⟩) : Fs))[j]? = some u -> (w7.alloc (.cells #[.int .i64 p.1, .string ⟨p.2.toArray⟩, .int .i64 p.1, .slice up its.length uq] 47)).cell? ⟨w7.heap.size, j, none⟩ = some u) := zwe (fun j u hj => by rw [ze, if_pos rfl]; simpa [fE, Sl.v] using hj)
      have HSO : Hid (V.okR p.1 its = true /\ 1 ≤ its.length) := zwe ⟨hok, hl1⟩
      have HT8 := zwe (ht7.below hbZ)
      have HG7 := zwe hg7
      try dsimp only
      refine hK.out _ _ ?_ (fun hHeld => nx ?_)
      ·(try dsimp only); exact ⟨zo hg7 HGB.out hHeld.1, zo hg7 HGB.out hHeld.2⟩
      clear hK K
      refine tk 19 ?_
      refine rd 20 fun K hK => ?_
      go_simp
      refine hK.out _ _ ?_ (fun hHeld => nx ?_)
      ·exact zx9
      exact zwo
     ·go_simp
      refine (zlt b (k + 10 + 3 * j) p.1 wd (HMW.out _ HGD.out) HTD.out (by have := HJ.out; omega) HPKp.out.1).mono ?_
      rintro e w7 ⟨u, its, rfl, hu, hok, hl1, how, ht7, hg7⟩
      obtain ⟨up, uq, rfl⟩ := hu.slice
      unfold setV
      have HD7 := zwe (HDD.out.tape hg7 HBB.out)
      have hbZ : Below w7.heap.size w7 (w7.alloc (.cells #[.int .i64 p.1, .string ⟨p.2.toArray⟩, .int .i64 p.1, .slice up its.length uq] 47)) := (zwh _ w7).alloc (zwg _) _
      have HA := zwe (HD7.out.call hbZ)
      have HZ7 := zwe hg7.size
      have HP8 : Hid (FOk (w7.alloc (.cells #[.int .i64 p.1, .string ⟨p.2.toArray⟩, .int .i64 p.1, .slice up its.length uq] 47)) (.slice vao us.length vco) ((⟨p.1, p.2, p.1, its⟩, ⟨up, its.length, uq⟩) : Fs)) := zwe ⟨⟨HPN.out, ux (V.zab hok), Nat.le_trans (V.zab hok).len (by decide)⟩, rfl, hu.below hbZ, fun _ c hc e => by have := how c hc; have := (HRWo.out c e).1; omega⟩
      have HOW8 : Hid (∀ c, (Value.slice up its.length uq).ownBlock = some c -> O < c) := zwe (fun c hc => by have := how c hc; have := HDD.out.lt; omega)
      have HNW : Hid (∀ j u, (fE ((⟨p.1, p.2, p.1, its⟩, ⟨up, its.length, uq⟩) : Fs))[j]? = some u -> (w7.alloc (.cells #[.int .i64 p.1, .string ⟨p.2.toArray⟩, .int .i64 p.1, .slice up its.length uq] 47)).cell? ⟨w7.heap.size, j, none⟩ = some u) := zwe (fun j u hj => by rw [ze, if_pos rfl]; simpa [fE, Sl.v] using hj)
      have HSO : Hid (V.okR p.1 its = true /\ 1 ≤ its.length) := zwe ⟨hok, hl1⟩
      have HT8 := zwe (ht7.below hbZ)
      have HG7 := zwe hg7
      try dsimp only
      refine hK.out _ _ ?_ (fun hHeld => nx ?_)
      ·(try dsimp only); exact ⟨zo hg7 HGB.out hHeld.1, zo hg7 HGB.out hHeld.2⟩
      clear hK K
      refine tk 19 ?_
      refine wpAnyH_ready (rs := [1, 20]) (by kernel_rfl) (by simp) ?_
      refine (AllReadyH.cons (o := _) rfl (fun K hK => ?_) (AllReadyH.cons (o := _) rfl (fun K hK => ?_) AllReadyH.nil))
      ·refine zbm rfl (.slice vao us.length vco) (by first | (have := hO3; go_simp; done) | (have := (xk HD7.out.inv).2.2.2; go_simp; done) | (have := (xk HA.out.inv).2.2.2; go_simp; done)) ?_
       try dsimp only
       refine hK.out _ _ ?_ (fun hHeld => nx ?_)
       ·exact hHeld
       clear hK K
       refine rd 20 fun K hK => ?_
       go_simp
       refine hK.out _ _ ?_ (fun hHeld => nx ?_)
       ·exact zx9
       exact zwo
      ·go_simp
       refine hK.out _ _ ?_ (fun hHeld => nx ?_)
       ·exact zx9
       clear hK K
       refine rd 1 fun K hK => ?_
       refine zbm rfl (.slice vao us.length vco) (by first | (have := hO3; go_simp; done) | (have := (xk HD7.out.inv).2.2.2; go_simp; done) | (have := (xk HA.out.inv).2.2.2; go_simp; done)) ?_
       try dsimp only
       refine hK.out _ _ ?_ (fun hHeld => nx ?_)
       ·exact hHeld
       exact zwo
    ·obtain rfl : j = l.length := by omega
     have hc4 := xk HDI.out.inv
     obtain ⟨z0, z1, z2, z3⟩ := hc4
     have HTE := zwe ht
     rw [List.take_length] at HMP
     clear hrow ht hg hvi hlt
     go_wp2_with (first | (refine qr rfl qa _ _ rfl w.heap.size #[.string ⟨#[]⟩, .int .i64 0, .int .i64 0, .slice none 0 0] 29 HDI.out.zero rfl (.string ⟨id.toArray⟩) (.int .i64 (1 + (r1 : Int))) (.int .i64 (1 + (r2 : Int))) (.slice vao us.length vco) ⟨rfl, rfl, rfl, rfl⟩ rfl rfl ?_) | fail)
     refine bodyPost_ret (v := .agg #[.string ⟨id.toArray⟩, .int .i64 (1 + (r1 : Int)), .int .i64 (1 + (r2 : Int)), .slice vao us.length vco]) (zi4 Tryz.results5 rfl (zcw Tryz.underlying29 qa (setRow_heap _ _ _ _ _ _ HDI.out.zero))) rfl ?_
     have hbase := HDI.out.base
     have hbb := HBB.out
     have hgr := qj wr w.heap.size #[.string ⟨id.toArray⟩, .int .i64 (1 + (r1 : Int)), .int .i64 (1 + (r2 : Int)), .slice vao us.length vco]
     have hlen := HUS.out
     have hl3 := HL3.out
     refine ⟨⟨id, 1 + r1, 1 + r2, us.map (·.1)⟩, .slice vao us.length vco, us, rfl, ⟨HID.out.1, HID.out.2, by show (1 : Int) ≤ 1 + (r1 : Int); omega, by show 1 + (r1 : Int) ≤ 3; have := HR12.out.1; omega, by show (1 : Int) ≤ 1 + (r2 : Int); omega, by show 1 + (r2 : Int) ≤ 10; have := HR12.out.2; omega, by rw [List.length_map]; omega, fun a ha => ?_, ?_⟩, rfl, ?_, ?_, ze7 HGI.out hgr (zwg _)⟩
     ·obtain ⟨q, hq, rfl⟩ := List.mem_map.1 ha
      exact HSN.out q hq
     ·show V.Asc ((us.map (·.1)).map V.pk)
      rw [List.map_map]
      have h := HMP.out
      rw [show (V.pk ∘ fun x : Fs => x.1) = fun q => V.pk q.1 from rfl, h]
      exact HAS.out
     ·intro W hW
      have hrk := HDI.out.row.kept hgr (HDI.out.rowNe HDI.out.zero (by decide)) (fun p hp c hc => by have := HDI.out.own p hp c hc; omega)
      exact (hrk.kept hW (fun e => by have := GRow.block hrk.row _ e; omega) (fun p hp c hc => by have := HDI.out.own p hp c hc; omega)).weaken (by omega)
     ·exact (HTE.out.grown hgr (by intro e; cases e; omega) (by intro c e; cases e; omega)).le (by omega)
theorem zqc (b k : Nat) (w : World) (hm : zg w) (h : Tape w b k) (hk : k ≤ 800000) :
  Calls Tryz.prog 5 #[.pointer (some ⟨b, 0, none⟩)] w (AdvPostK b k w) :=
 (zo7 b k w hm h hk).mono fun _ _ ⟨x, u, us, he, hx, hus, hu, ht, hg⟩ => ⟨x, u, he, hx, fun W hW => by rw [hus]; exact (hu W hW).affs, ht, hg⟩
theorem zq6 (b k : Nat) (w : World) (hm : zg w) (h : Tape w b k) (hk : k ≤ 800000) :
  Calls Tryz.prog 5 #[.pointer (some ⟨b, 0, none⟩)] w (AdvPost b k w) :=
 (zqc b k w hm h hk).mono fun _ _ ⟨x, u, he, hx, hu, ht, hg⟩ => ⟨x, u, he, hx, hu _ (World.grownBy.refl _ _), ht, hg⟩
open Go.RowKit
theorem u8_size1 : (Tryz.prog.info? 5).map (·.size) = some 1 := by kernel_rfl
theorem BufZ.at {N : Nat} {v : Value} {l : V.Bs} {W0 w : World} (h : BufZ N v l W0 w) (h0 : 0 < l.length) : ∃ g cap, v = .slice (some ⟨g, 0, none⟩) l.length cap /\ N ≤ g /\ g < w.heap.size /\ l.length ≤ cap /\ (∃ cur, w.heap[g]? = some (.cells cur 5 (0, 0))) /\ ∀ j (hj : j < l.length), w.cell? ⟨g, j, none⟩ = some (.int .u8 (l[j]).toNat) := by
 rcases h.1.2 with ⟨_, hn⟩ | ⟨g, cap, cur, hv, hb, hg, hm, hsz, hq, htk⟩
 ·omega
 ·refine ⟨g, cap, hv, hb, (Array.getElem?_eq_some_iff.1 hg).1, hm, ⟨cur, hg⟩, fun j hj => ?_⟩
  exact zzf
theorem BufZ.put {w : World} {g cap : Nat} {l : V.Bs} (hlt : g < w.heap.size) (hcap : l.length ≤ cap) (hat : ∀ j (hj : j < l.length), w.cell? ⟨g, j, none⟩ = some (.int .u8 (l[j]).toNat)) (r : Nat) (hr : r < l.length) (c : UInt8) :
  wl (w.setCell ⟨g, r, none⟩ (.int .u8 c.toNat)) (.slice (some ⟨g, 0, none⟩) l.length cap) (l.set r c) := by
 have hex : ∃ v, w.cell? ⟨g, r, none⟩ = some v := ⟨_, hat r hr⟩
 refine ⟨some ⟨g, 0, none⟩, cap, by rw [List.length_set], by rw [List.length_set]; exact hcap, fun j hj => ⟨g, 0, rfl, Nat.lt_of_lt_of_le hlt (yd w g r _).size, ?_⟩⟩
 have hj' : j < l.length := by simpa using hj
 rw [Nat.zero_add, cell_set w g r g j _ hex]
 by_cases e : j = r
 ·subst e
  simp
 ·rw [if_neg (by intro e2; exact e e2.2), List.getElem_set_ne (fun e2 => e e2.symm)]
  exact hat j hj'
theorem V.enc_posV {x : V.Adv} (h : (V.encV x).2 = 0) : 0 < (V.encV x).1.length := by
 unfold V.encV at h ⊢
 split
 ·split
  ·exact V.doc_pos
  ·rename_i h1 h2
   rw [if_pos h1, if_neg h2] at h
   exact absurd h h2
 ·rename_i h1
  rw [if_neg h1] at h
  cases h
theorem V.enc_nilV {x : V.Adv} (h : ¬ (V.encV x).2 = 0) : (V.encV x).1 = [] := by
 unfold V.encV at h ⊢
 split
 ·rename_i h1
  rw [if_pos h1] at h
  split
  ·rename_i h2
   rw [if_pos h2] at h
   exact absurd rfl h
  ·rfl
 ·rfl
theorem EncV.conv {x : V.Adv} {w w' : World} {e : Ending} (h : EncV x w e w') : ∃ u, e = .returned (.tuple #[u, .int .i64 (V.encV x).2]) /\ Below w.heap.size w w' /\
  ∀ W, Below w'.heap.size w' W -> (convert 23 9 u).run Tryz.prog W = .ok (.string ⟨(V.encV x).1.toArray⟩) W := by
 by_cases hc : (V.encV x).2 = 0
 ·obtain ⟨u, N, W0, rfl, hb⟩ := h.1 hc
  refine ⟨u, by rw [hc], h.2.2, fun W hW => zjm (hb.bytesInA.below hW) (V.enc_posV hc)⟩
 ·exact ⟨_, h.2.1 hc, h.2.2, fun W _ => by rw [V.enc_nilV hc]; exact zrv W⟩
open Go.RowKit
theorem u8_of {n : Int} (h : (Lit.int .u8 n).wf = true) : ∃ c : UInt8, n = (c.toNat : Int) := by
 refine ⟨UInt8.ofNat n.toNat, ?_⟩
 simp [Lit.wf, IntKind.min, IntKind.max, IntKind.signed, IntKind.bits] at h
 simp
 omega
theorem zf4 (a : Option Addr) (m cap0 : Nat) (n1 n2 : Int) (w : World) (hm : zg w) (hp : zc6 w) (ht : Nums w a m) (hmc : m ≤ cap0) (hn1 : (Lit.int .i64 n1).wf = true) (hn2 : (Lit.int .u8 n2).wf = true) :
  Calls Tryz.prog 3 #[.slice a m cap0, .int .i64 n1, .int .u8 n2] w fun e w' => e = .returned (.bool true) /\ Below w.heap.size w w' := by
 obtain ⟨by0, rfl⟩ := u8_of hn2
 have HM := zwe hm
 have HP := zwe hp
 have HT := zwe (And.intro ht hmc)
 have HN1 := zwe hn1
 clear hm hp ht hmc hn1 hn2
 go_enter Tryz.func3, Tryz.ntmps3
 go_wp2_with fail
 refine (zv3 a m cap0 60 w HT.out.1 HT.out.2 (by decide)).mono ?_
 rintro e w1 ⟨rfl, ht1, hb1, hz1⟩
 have HT1 := zwe ht1
 have HB1 := zwe hb1
 clear ht1 hb1 hz1
 go_wp2_with fail
 refine (zq6 w.heap.size 0 w1 (HM.out.below HB1.out) HT1.out (by decide)).mono ?_
 rintro e w2 ⟨x0, u0, rfl, hx, hu, ht2, hg2⟩
 have HB2 := zwe (HB1.out.trans (zil hg2 (zwg _) HB1.out.size))
 have HL : Hid (x0.id.length ≤ maxLen /\ x0.aff.length ≤ maxLen) := zwe (by have := hx.idl; have := hx.len; unfold maxLen; omega)
 have HE := zwe hx.encV
 have HLN := zwe (V.encV_len (x := x0) (by rw [HE.out]))
 have HPD : Hid (0 < (V.encV x0).1.length) := zwe (V.enc_posV (by rw [HE.out]))
 have HU2 := zwe hu
 clear hx hu ht2 hg2 HT1
 go_wp2_with fail
 refine (zdt x0 u0 w2 (HM.out.below HB2.out) (HP.out.below HB2.out) HU2.out HL.out.1 HL.out.2).mono ?_
 intro e w3 he
 obtain ⟨u3, N3, W3, rfl, hbuf, hN3⟩ := he.1 (by rw [HE.out])
 have hb3 := he.2.2
 have HB3 := zwf HB2 hb3
 obtain ⟨g, cap, rfl, hNg, hg, hcap, ⟨cur, hcur⟩, hat⟩ := hbuf.at HPD.out
 have HG : Hid (w.heap.size ≤ g) := zwe (by have := HB2.out.size; omega)
 clear he hb3 HB2 HU2 HL HE hbuf hN3 hNg
 obtain ⟨D, hD⟩ : ∃ D, D = (V.encV x0).1 := ⟨_, rfl⟩
 rw [← hD] at HLN HPD hcap hat ⊢
 clear hD
 have HC := zwe hcap
 have HAT := zwe hat
 have HGZ := zwe hg
 have HCU := zwe hcur
 clear hcap hat hg hcur
 go_wp2_with fail
 refine (zsc n1 (D.length : Int) w3 HN1.out (by have := HPD.out; omega) (by have := HLN.out; omega)).mono ?_
 rintro e w' ⟨r, rfl, hr, hw'⟩
 obtain rfl := hw'.symm
 clear hw'
 have hr' : r < D.length := by omega
 have hcr := HAT.out r hr'
 have hfr := zbs (o := r) HCU.out
 have HBI := zwe (BufZ.put HGZ.out HC.out HAT.out r hr' by0)
 have HB4 := zwe (HB3.out.grown (yd w3 g r (.int .u8 (by0.toNat : Int))) HB3.out.size (fun k hk => by cases hk; exact HG.out))
 have hlen : (D.set r by0).length = D.length := List.length_set
 obtain ⟨bs, hbs⟩ : ∃ bs, bs = D.set r by0 := ⟨_, rfl⟩
 rw [← hbs] at HBI hlen
 have HLB := zwe hlen
 clear hbs hlen
 go_wp2_with (first | (refine zpz rfl 5 _ _ rfl g r rfl (.int .u8 (by0.toNat : Int)) rfl _ hcr hfr u8_size1 rfl ?_) | fail)
 clear hcr hfr hr hr' HAT HCU HGZ HG HB3
 generalize w3.setCell ⟨g, r, none⟩ (.int .u8 (by0.toNat : Int)) = w4 at *
 have HL4 : Hid (bs.length ≤ maxLen) := zwe (by rw [HLB.out]; have := HLN.out; unfold maxLen; omega)
 have HPB : Hid (0 < bs.length) := zwe (by rw [HLB.out]; exact HPD.out)
 have HF := zwe (V.decV_facts bs)
 refine (zff (.slice (some ⟨g, 0, none⟩) D.length cap) bs w4 (HM.out.below HB4.out) (HP.out.below HB4.out) HBI.out HL4.out).mono ?_
 rintro e w5 ⟨v5, rfl, hv5, hb5⟩
 obtain ⟨⟨x, c⟩, hQ⟩ : ∃ Q, V.decV bs = Q := ⟨_, rfl⟩
 rw [hQ] at hv5 HF ⊢
 simp only at hv5 HF ⊢
 have HDD := zwe hQ
 obtain ⟨pa, pc, rfl⟩ := hv5.slice
 obtain ⟨hb6, c0, c1, c2, c3⟩ := zbj x (.slice pa x.aff.length pc) w5
 have HV6 := zwe (hv5.below hb6)
 have HB6 := zwe (HB4.out.trans ((hb5.trans (hb6.mono hb5.size)).mono HB4.out.size))
 have HY6 := zwe (HBI.out.below (hb5.trans (hb6.mono hb5.size)))
 have hz6 : w5.heap.size < (w5.alloc (.cells #[.string ⟨x.id.toArray⟩, .int .i64 x.rev, .int .i64 x.sev, .slice pa x.aff.length pc] 29)).heap.size := by simp
 clear hQ hb5 hb6 hv5 HBI HB4
 unfold advV
 go_wp2_with fail
 generalize w5.alloc (.cells #[.string ⟨x.id.toArray⟩, .int .i64 x.rev, .int .i64 x.sev, .slice pa x.aff.length pc] 29) = w6 at *
 generalize w5.heap.size = X1 at *
 refine (zkd (.slice (some ⟨g, 0, none⟩) D.length cap) bs w6 (HM.out.below HB6.out) (HP.out.below HB6.out) HY6.out HL4.out).mono ?_
 rintro e w7 ⟨v7, rfl, hv7, hb7⟩
 rw [HDD.out] at hv7 ⊢
 simp only at hv7 ⊢
 obtain ⟨pa7, pc7, rfl⟩ := hv7.slice
 obtain ⟨hb8, d0, d1, d2, d3⟩ := zbj x (.slice pa7 x.aff.length pc7) w7
 have hb68 := hb7.trans (hb8.mono hb7.size)
 replace c0 := zb hb68 c0
 replace c1 := zb hb68 c1
 replace c2 := zb hb68 c2
 replace c3 := zb hb68 c3
 have HV8 := zwe (HV6.out.below hb68)
 have HW8 := zwe (hv7.below hb8)
 have HY8 := zwe (HY6.out.below hb68)
 have HB8 := zwf HB6 hb68
 clear hb7 hb8 hb68 hv7 HV6 HY6 HB6 hz6
 unfold advV
 go_wp2_with fail
 generalize w7.alloc (.cells #[.string ⟨x.id.toArray⟩, .int .i64 x.rev, .int .i64 x.sev, .slice pa7 x.aff.length pc7] 29) = w8 at *
 generalize w7.heap.size = X2 at *
 refine (zch x (.slice pa x.aff.length pc) w8 (HM.out.below HB8.out) (HP.out.below HB8.out) HV8.out HF.out.1 HF.out.2).mono ?_
 intro e w9 he
 obtain ⟨u9, rfl, hb9, hc9⟩ := he.conv
 replace c0 := zb hb9 c0
 replace c1 := zb hb9 c1
 replace c2 := zb hb9 c2
 replace c3 := zb hb9 c3
 replace d0 := zb hb9 d0
 replace d1 := zb hb9 d1
 replace d2 := zb hb9 d2
 replace d3 := zb hb9 d3
 have HV9 := zwe (HV8.out.below hb9)
 have HW9 := zwe (HW8.out.below hb9)
 have HY9 := zwe (HY8.out.below hb9)
 have HB9 := zwf HB8 hb9
 have HC9 := zwe hc9
 clear he hb9 hc9 HV8 HW8 HY8 HB8
 by_cases hcz : c = 0
 case neg =>
  have hcn : (c != 0) = true := by simp [hcz]
  generalize (V.encV x).2 = ee at *
  go_wp2_with fail
  refine (zfr x (.slice pa x.aff.length pc) (.slice pa7 x.aff.length pc7) w9 HV9.out HW9.out HF.out.2).mono ?_
  rintro e wa ⟨rfl, hba⟩
  have HBA := zwf HB9 hba
  clear hba HB9 HV9 HW9 HY9 c0 c1 c2 c3 d0 d1 d2 d3
  go_wp2_with fail
  refine (zh6 wa (HM.out.below HBA.out) (HP.out.below HBA.out)).mono ?_
  rintro e wb ⟨rfl, hbb⟩
  have HBB := zwf HBA hbb
  clear hbb
  go_wp2
  go_ret
  exact ⟨zc rfl, HBB.out⟩
 subst hcz
 have HEV : Hid (V.encV x = (bs, 0)) := zwe (by have := V.zvc (b := bs) (by rw [HDD.out]); rw [HDD.out] at this; exact this)
 rw [HEV.out] at HC9 ⊢
 simp only at HC9 ⊢
 go_wp2_with fail
 refine (zfr x (.slice pa x.aff.length pc) (.slice pa7 x.aff.length pc7) w9 HV9.out HW9.out HF.out.2).mono ?_
 rintro e wa ⟨rfl, hba⟩
 have HBA := zwf HB9 hba
 have h1 := HC9.out wa hba
 have h2 := zjm (HY9.out.below hba) HPB.out
 clear hba HB9 HV9 HW9 HY9 HC9 c0 c1 c2 c3 d0 d1 d2 d3
 go_wp2_with fail
 refine (zh6 wa (HM.out.below HBA.out) (HP.out.below HBA.out)).mono ?_
 rintro e wb ⟨rfl, hbb⟩
 have HBB := zwf HBA hbb
 clear hbb
 go_wp2
 go_ret
 exact ⟨zc rfl, HBB.out⟩
open Go.ChangeShapes Go.WideShapes Go.ChangeAt Go.RowKit
theorem cellsI : Tryz.prog.cellsOf 3 = 1 := by kernel_rfl
theorem cellsS : Tryz.prog.cellsOf 9 = 1 := by kernel_rfl
theorem zvs {H : Type} {enc : TypeId × Value -> H} {W : World} {base : Nat} {v : Value} {d : DataW H} {p : List MemPlace} (hv : Value.okWide Tryz.prog W .any base 22 v)
  (h : DataW.Trod enc Tryz.prog W 0 (fun _ => true) true 22 v d p) : ∃ a m cap, v = .slice a m cap /\ Nums W a m := by
 obtain ⟨a0, len, cap, rfl⟩ := okWide_slice Tryz.underlying22 hv
 refine ⟨a0, len, cap, rfl, ?_⟩
 obtain ⟨fuel0, hf⟩ := h
 rcases open_ints Tryz.underlying22 Tryz.underlying3 cellsI hf with ⟨hcs, hx⟩ | ⟨a, len', cap', zs, hcs, _, hl, hm, hz, hx, hcell, hwz⟩
 ·simp [Value.cells] at hcs
  obtain ⟨rfl, rfl, rfl⟩ := hcs
  exact ⟨by decide, fun j hj => absurd hj (by omega)⟩
 ·simp [Value.cells] at hcs
  obtain ⟨rfl, rfl, rfl⟩ := hcs
  simp only [if_true] at hz
  refine ⟨by omega, fun j hj => ?_⟩
  obtain ⟨b, off, spot⟩ := a
  have hspot : spot = none := by simpa [Addr.add] using World.cell?_spot (hcell 0 (by omega))
  subst hspot
  have hc := hcell j (by omega)
  rw [add_plain] at hc
  have hin : zs.getD j 0 ∈ zs := by rw [List.getD_eq_getElem?_getD, List.getElem?_eq_getElem (by omega)]; exact List.getElem_mem _
  exact ⟨b, off, zs.getD j 0, rfl, World.block_lt_of_cell? _ _ hc, hc, hwz _ hin⟩
theorem read_strs {H : Type} {enc : TypeId × Value -> H} {W : World} {base : Nat} {v : Value} {d : DataW H} {p : List MemPlace} (hv : Value.okWide Tryz.prog W .any base 41 v)
  (h : DataW.Trod enc Tryz.prog W 0 (fun _ => true) true 41 v d p) : ∃ L : List V.Bs, Strs W v L /\ L.length ≤ maxLen /\ ∀ x ∈ L, x.length ≤ maxLen := by
 obtain ⟨a0, len, cap, rfl⟩ := okWide_slice Tryz.underlying41 hv
 obtain ⟨fuel0, hf⟩ := h
 rcases open_strings Tryz.underlying41 Tryz.underlying9 cellsS hf with ⟨hcs, hx⟩ | ⟨a, len', cap', ss, hcs, _, hl, hm, hz, hx, hcell, hwz⟩
 ·simp [Value.cells] at hcs
  obtain ⟨rfl, rfl, rfl⟩ := hcs
  exact ⟨[], Strs.nil W, by simp, fun x hx => by simp at hx⟩
 ·simp [Value.cells] at hcs
  obtain ⟨rfl, rfl, rfl⟩ := hcs
  simp only [if_true] at hz
  have hll : ((ss.take len).map fun s : ByteArray => s.data.toList).length = len := by rw [List.length_map, List.length_take]; omega
  refine ⟨(ss.take len).map fun s : ByteArray => s.data.toList, ⟨some a, cap, by rw [hll], fun j hj => ?_⟩, by omega, fun x hx => ?_⟩
  ·rw [hll] at hj
   obtain ⟨b, off, spot⟩ := a
   have hspot : spot = none := by simpa [Addr.add] using World.cell?_spot (hcell 0 (by omega))
   subst hspot
   have hc := hcell j (by omega)
   rw [add_plain] at hc
   refine ⟨b, off, rfl, World.block_lt_of_cell? _ _ hc, ?_⟩
   rw [hc]
   congr 2
   rw [List.getElem_map, List.getElem_take, List.getD_eq_getElem?_getD, List.getElem?_eq_getElem (by omega)]
   exact (zj9 _).symm
  ·rw [List.mem_map] at hx
   obtain ⟨s, hs, rfl⟩ := hx
   rw [zf]
   exact hwz s (List.mem_of_mem_take hs)
open Go.ChangeShapes Go.WideShapes Go.ChangeAt Go.RowKit
theorem ztc {H : Type} {enc : TypeId × Value -> H} {W : World} {base : Nat} {v : Value} {d : DataW H} {p : List MemPlace} (hv : Value.okWide Tryz.prog W .any base 22 v)
  (h : DataW.Trod enc Tryz.prog W 0 (fun _ => true) true 22 v d p) : ∃ a m cap, v = .slice a m cap /\ Nums W a m /\ m ≤ cap := by
 obtain ⟨a1, m1, c1, e1, hn⟩ := zvs hv h
 obtain ⟨a0, len, cap, rfl⟩ := okWide_slice Tryz.underlying22 hv
 cases e1
 refine ⟨_, _, _, rfl, hn, ?_⟩
 obtain ⟨fuel0, hf⟩ := h
 rcases open_ints Tryz.underlying22 Tryz.underlying3 cellsI hf with ⟨hcs, hx⟩ | ⟨a, len', cap', zs, hcs, _, hl, hm, hz, hx, hcell, hwz⟩
 ·simp [Value.cells] at hcs
  obtain ⟨rfl, rfl, rfl⟩ := hcs
  exact zwg _
 ·simp [Value.cells] at hcs
  obtain ⟨rfl, rfl, rfl⟩ := hcs
  exact hl
end Go.Proofs.YtcfbkcapbbhmpaaGreatDoor
namespace Go.Proofs.YtcfbkcapbbhmpaaGreatDoor.laying
open Go.RowKit
theorem own : ownKnob Tryz.prog.godebug = none := by kernel_rfl
theorem laidOut : laidOutB Tryz.prog = true := by kernel_rfl
mutual
def flat : DataW Unit -> List Value
 | .lit (.int k n) => [.int k n]
 | .agg ps => zut ps
 | _ => []
def zut : List (DataW Unit) -> List Value
 | [] => []
 | d :: r => flat d ++ zut r
end
def zbw (l : List Value) : Obj -> Obj
 | .cells _ t frozen => .cells l.toArray t frozen
 | o => o
noncomputable def laidWorld (os : Os) : World :=
 { World.holding Tryz.prog os ⟨#[], #[], []⟩ with
   heap := ((World.holding Tryz.prog os ⟨#[], #[], []⟩).heap.modify 3 (zbw (flat Rows.laid_unicode_utf8_acceptRanges))).modify 2 (zbw (flat Rows.laid_unicode_utf8_first)) }
end Go.Proofs.YtcfbkcapbbhmpaaGreatDoor.laying
namespace Go.Proofs.YtcfbkcapbbhmpaaGreatDoor.laying
open Go.RowKit
noncomputable def laidWorldP (os : Os) : World :=
 { World.holding Tryz.prog os ⟨#[], #[], []⟩ with
   heap := (((((World.holding Tryz.prog os ⟨#[], #[], []⟩).heap.modify 3 (zbw (flat Rows.laid_unicode_utf8_acceptRanges))).modify 2 (zbw (flat Rows.laid_unicode_utf8_first))).modify 1 (zbw (flat Rows.laid_internal_strconv_uint64pow10))).modify 4 (zbw (flat Rows.laid_math_bits_deBruijn32tab))).modify 5 (zbw (flat Rows.laid_math_bits_deBruijn64tab)) }
end Go.Proofs.YtcfbkcapbbhmpaaGreatDoor.laying
namespace Go.Proofs.YtcfbkcapbbhmpaaGreatDoor
open Go.RowKit
theorem zvg : laidOutB Tryz.prog = true := by kernel_rfl
theorem zv0 : mapsRowed Tryz.prog = true := by kernel_rfl
end Go.Proofs.YtcfbkcapbbhmpaaGreatDoor
