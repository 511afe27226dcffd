/-
  Lemmas for the law.
-/
import Derived.Test.YtbikeahmldobkaaGreatDoorC51x41
import Derived.Test.YtbikeahmldobkaaGreatDoorC51x47
import Derived.Test.YtbikeahmldobkaaGreatDoorC51x08
import Derived.Test.YtbikeahmldobkaaGreatDoorC51x02
import Derived.Test.YtbikeahmldobkaaGreatDoorCards
import Derived.Test.YtbikeahmldobkaaGreatDoorTie
import Derived.Test.YtbikeahmldobkaaGreatDoorRows
import Derived.ProofKit
import Derived.SliceStrings
import Derived.OpenShut
import Derived.Deep.DeepHandedRow
import Derived.Lib.LaidTab
import Derived.JoinedOf
set_option linter.all false
set_option maxRecDepth 100000
set_option maxHeartbeats 6400000
namespace Go.Proofs.YtbikeahmldobkaaGreatDoor
open Go.RowKit
theorem ERow.put {α : Type} {enc : α -> List Value} {T : TypeId} {k : Nat} (hk : ∀ x, (enc x).length = k) {w : World} {g : Nat} {l : List α} (h : ERow T k enc w g l) {i : Nat} (hi : i < l.length) {j : Nat} (hj : j < k) (val : Value) (y : α) (hy : enc y = (enc l[i]).set j val) :
  ERow T k enc (w.setCell ⟨g, i * k + j, none⟩ val) g (l.set i y) := by
 obtain ⟨cs, hg, g0, hc⟩ := h
 refine ⟨cs.setIfInBounds (i * k + j) val, kj _ _ hg, by rw [List.length_set, Array.size_setIfInBounds]; exact g0, fun o ho => ?_⟩
 rw [List.length_set] at ho
 obtain ⟨g1, hq, he, hr⟩ := ze2 hk ho
 have e1 := yf hk (l := l) (o / k) hq (o % k) hr
 have e2 := yf hk (l := l.set i y) (o / k) (by rw [List.length_set]; exact hq) (o % k) hr
 rw [← he] at e1 e2
 rw [e2, Array.getElem?_setIfInBounds]
 by_cases hqi : o / k = i
 ·have e3 : (l.set i y)[o / k]'(by rw [List.length_set]; exact hq) = y := by simp only [hqi, List.getElem_set_self]
  rw [e3, hy, List.getElem?_set]
  by_cases hrj : o % k = j
  ·have eo : i * k + j = o := by rw [← hqi, ← hrj]; exact he.symm
   rw [if_pos eo, if_pos hrj.symm, if_pos (by rw [eo]; omega), if_pos (by rw [hk]; exact hj)]
  ·have eo : ¬ i * k + j = o := fun e => hrj (by
     rw [← e, Nat.add_comm, Nat.add_mul_mod_self_right]
     exact Nat.mod_eq_of_lt hj)
   rw [if_neg eo, if_neg (fun e => hrj e.symm), hc o ho, e1]
   simp only [hqi]
 ·have e3 : (l.set i y)[o / k]'(by rw [List.length_set]; exact hq) = l[o / k] := List.getElem_set_ne (Ne.symm hqi) _
  have eo : ¬ i * k + j = o := fun e => hqi (by
    rw [← e, Nat.add_comm, Nat.add_mul_div_right _ _ g1, Nat.div_eq_of_lt hj, Nat.zero_add])
  rw [e3, if_neg eo, hc o ho, e1]
theorem affs_of {w : World} {v : Value} {us : List Fs} (h : GSl 4 fE w v us) (he : ∀ p ∈ us, AffWf p.1 /\ p.2.n = p.1.its.length /\ Itvs w p.2.v p.1.its) : Affs w v (us.map (·.1)) := by
 obtain ⟨a, cap, rfl, hc⟩ := h
 refine ⟨a, cap, by simp, fun j hj => ?_⟩
 have g0 : j < us.length := by simpa using hj
 obtain ⟨g, off, e, hg, k⟩ := hc j g0
 obtain ⟨hw, hn, hi⟩ := he us[j] (List.getElem_mem g0)
 have e1 : (us.map (·.1))[j] = us[j].1 := by simp
 rw [e1]
 have hv : us[j].2.v = .slice us[j].2.a us[j].1.its.length us[j].2.c := by unfold Sl.v; rw [hn]
 refine ⟨hw, g, off, us[j].2.a, us[j].2.c, e, hg, ?_⟩
 exact zww
def no5 : V.Bs := [110, 111, 110, 101, 47]
def oth : V.Bs := [111, 116, 104, 101, 114]
def preF (p : Fs) : Fs := (⟨p.1.sch, no5 ++ p.1.name, p.1.rs, p.1.its⟩, p.2)
def fsI (fs : List Fs) (i : Nat) : List Fs := (fs.take i).map preF ++ fs.drop i
theorem fsI_len (fs : List Fs) (i : Nat) : (fsI fs i).length = fs.length := by
 unfold fsI
 rw [List.length_append, List.length_map, List.length_take, List.length_drop]
 omega
theorem fsI_zero (fs : List Fs) : fs = fsI fs 0 := by simp [fsI]
theorem fsI_eq {fs : List Fs} {i : Nat} (h : i < fs.length) : fsI fs i = (fs.take i).map preF ++ fs[i] :: fs.drop (i + 1) := by
 unfold fsI
 rw [← List.drop_eq_getElem_cons h]
theorem fsI_at {fs : List Fs} {i : Nat} (h : i < fs.length) : (fsI fs i)[i]? = some fs[i] := by
 rw [fsI_eq h, List.getElem?_append_right (by rw [List.length_map, List.length_take]; omega), List.length_map, List.length_take, Nat.min_eq_left (by omega), Nat.sub_self]
 rfl
theorem fsI_set {fs : List Fs} {i : Nat} (h : i < fs.length) : (fsI fs i).set i (preF fs[i]) = fsI fs (i + 1) := by
 have e : ((fs.take i).map preF).length = i := by rw [List.length_map, List.length_take]; omega
 rw [fsI_eq h, List.set_append_right _ _ (by rw [e]; exact zva _), e, Nat.sub_self]
 unfold fsI
 rw [List.take_succ_eq_append_getElem h, List.map_append, List.append_assoc]
 rfl
theorem cat_ba (a b : V.Bs) : (⟨a.toArray⟩ : ByteArray) ++ ⟨b.toArray⟩ = ⟨(a ++ b).toArray⟩ := by
 apply ByteArray.ext
 simp
theorem zjb {w w' : World} {B : Nat} (h : w.grownBy w' (Value.slice none 0 0).ownBlock) (hB : B ≤ w.heap.size) : Below B w w' :=
 ⟨h.os, h.tape, h.output, h.size, fun i hi => h.block i (by omega) (fun e => by cases e)⟩
theorem zfk (w : World) (x : NS) : GSl 37 nE (w.alloc (.cells (nE x).toArray 57)) (.slice (some ⟨w.heap.size, 0, none⟩) 1 1) [x] :=
 GSl.one (by simp) (fun j u hu => by rw [World.cell?_alloc_new, List.getElem?_toArray]; exact hu)
theorem d99_ok : ∀ n ∈ dig1 99, (Lit.int .u8 n).wf = true := by decide
theorem ztr {a b : V.Bs} (h : b ∈ xy) : no5 ++ a ≠ b := by
 intro e
 subst e
 simp [xy, no5] at h
theorem zxl {P : Prop} (h : P := by
 exact fun w' hSw => zcx (ty := 29) rfl rfl (zcg ((hSw.block w3.heap.size HXl9b.out).trans HG9.out) Tryz.underlying29 rfl HIN.out)) : P := h
theorem zeu (a : Option Addr) (m cap : Nat) (w : World) (hm : zj w) (ht : Nums w a m) (z4 : m ≤ cap) :
  Calls Tryz.prog 9 #[.slice a m cap] w fun e w' => e = .returned (.bool true) /\ Below w.heap.size w w' := by
 have HM := zu8 hm
 have HT := zu8 (And.intro ht z4)
 clear hm ht z4
 go_enter Tryz.func9, Tryz.ntmps9
 go_wp2_with fail
 refine (zme a m cap 200 w HT.out.1 HT.out.2 (by decide)).mono ?_
 rintro e w1 ⟨rfl, ht1, hb1, z5⟩
 have HT1 := zu8 ht1
 have HB1 := zu8 hb1
 have k1 := zu8 z5
 clear ht1 hb1 z5
 go_wp2_with fail
 refine (zk3 w.heap.size 0 6 w1 HT1.out (by decide) (by decide)).mono ?_
 rintro e w2 ⟨x, r, v, l, z6, z7, z8, hl, z9, rfl, k7, G0, k8, G1⟩
 have Q3 := zu8 G1
 clear G1
 have HX1 := zu8 z6
 have k2 := zu8 z7
 have HR9 := zu8 z8
 have U3 := zu8 hl
 have Z5 := zu8 z9
 have U4 := zu8 k7
 have G2 := zu8 G0
 have G3 := zu8 k8
 have U5 := zu8 (HM.out.below HB1.out)
 have G4 := zu8 (U5.out.tape HT1.out k8)
 obtain ⟨va, vc, g5, z3⟩ := k7.comps
 subst g5
 obtain ⟨ic, k9⟩ : ∃ ic, ic = (icells (dig1 x) r (.slice va l.length vc)) := ⟨_, rfl⟩
 have h9 := zu8 k9
 rw [← k9]
 clear z6 z7 z8 hl z9 k7 G0 k8 z3 k9
 go_wp2_with fail
 refine (zle w.heap.size (0 + 3 + 6 * 6) 5 w2 G4.out G2.out (by decide) (by decide)).mono ?_
 rintro e w3 ⟨nv, us, rfl, q0, j0, G5, hg3⟩
 have Z6 := zu8 q0
 have U6 := zu8 j0
 have G6 := zu8 G5
 have U7 := zu8 (G4.out.tape G2.out hg3)
 have j8 := zu8 (U4.out.kept hg3 (fun g e => by cases e; exact k1.out))
 have HB3 := zu8 (HB1.out.trans ((qj (G3.out.trans hg3) (zva _) (Nat.le_of_lt k1.out)).mono (zva _)))
 have HN3 := zu8 j0.notes
 obtain ⟨na, nc, q1⟩ := j0.row.slice
 subst q1
 have q2 := qn (d := dig1 x) rfl r (.slice va l.length vc)
 have HIN : Hid ((Tryz.prog.info? 29).map (·.size) = some ic.size) := zu8 (by rw [h9.out, xu, q2])
 have U8 : Hid (ic.size = 34) := zu8 (by rw [h9.out, q2])
 have HS : Hid ((icells zq 0 (.slice none 0 0)).size = ic.size) := zu8 (by rw [U8.out, qn rfl])
 have HO : Hid (ic.all (·.oneCell') = true) := zu8 (by rw [h9.out]; exact zck j8.out.comps.one)
 have q3 : (w3.alloc (.cells (icells zq 0 (.slice none 0 0)) 29)).heap[w3.heap.size]? = some (.cells (icells zq 0 (.slice none 0 0)) 29 (0, 0)) := heap_alloc_new w3 _
 have g6 : Below w3.heap.size w3 ((w3.alloc (.cells (icells zq 0 (.slice none 0 0)) 29)).setRow w3.heap.size ic) :=
  ((zvb _ w3).alloc (zva _) _).trans (qj (zz _ _ _) (zva _) (by simp))
 obtain ⟨W4, j1⟩ : ∃ W4, W4 = (w3.alloc (.cells (icells zq 0 (.slice none 0 0)) 29)).setRow w3.heap.size ic := ⟨_, rfl⟩
 rw [← j1] at g6
 have U9 := zu8 j1
 have q4 := zu8 g6
 have HB4 := zu9 HB3 g6
 have q5 := zu8 (U7.out.below g6)
 have Z7 := zu8 (j8.out.comps.below g6)
 have HN4 := zu8 (HN3.out.below g6)
 have q6 := zu8 (G6.out.below g6)
 have V0 : Hid (W4.heap[w3.heap.size]? = some (.cells ic 29 (0, 0))) := zu8 (by rw [j1]; exact setRow_heap _ _ _ _ _ _ q3)
 have V1 : Hid (W4.heap.size = w3.heap.size + 1) := zu8 (by rw [j1]; simp)
 have V2 := zu8 q3
 have G7 : Hid ((us.map (·.nv)).length ≤ 5) := zu8 (by rw [List.length_map]; exact q0)
 have j2 : Hid (us.length = (us.map (·.nv)).length) := zu8 (by rw [List.length_map])
 rw [j2.out] at HN4
 rw [j2.out]
 have Z3 : Hid (∀ y ∈ us.map (·.nv), V.MadeV y.n.adv) := zu8 (fun y hy => by
   obtain ⟨p, hp, rfl⟩ := List.mem_map.1 hy
   exact (j0.each p hp).made)
 have G8 : Hid ((dig1 x).length = 32) := zu8 rfl
 have G9 : Hid (∀ n ∈ dig1 (x : Int), (Lit.int .u8 n).wf = true) := zu8 (zsj x k2.out)
 generalize J0 : us.map (·.nv) = xs at *
 have J1 := zu8 J0
 clear J0
 clear q0 j0 G5 hg3 q2 q3 g6 j1
 have V3 : Hid (w3.heap.size < W4.heap.size) := zu8 (by rw [V1.out]; omega)
 have g3 : Hid (us.length ≤ 5) := zu8 (by have := G7.out; rw [j2.out]; exact this)
 have j3 : Hid (l.length ≤ 12 /\ xs.length ≤ 8) := zu8 ⟨by have := U3.out; omega, by have := G7.out; omega⟩
 have Q4 := zu8 (U6.out.call q4.out)
 have Q5 := zu8 (j8.out.kept (row := none) (zm q4.out none) (fun g e => by cases e))
 have Q6 : Hid (w.heap.size < w2.heap.size) := zu8 (Nat.lt_of_lt_of_le k1.out G3.out.size)
 have Q7 : Hid (w.heap.size < w3.heap.size) := zu8 G6.out.lt
 go_wp2_with (first | (rw [zb3]; refine wpList_store_row rfl _ _ _ rfl w3.heap.size ic rfl rfl 29 _ V2.out HIN.out HS.out HO.out ?_; rw [← U9.out]) | fail)
 refine (ze4 w.heap.size _ W4 q5.out q6.out (by decide)).mono ?_
 rintro e w5 ⟨y, u, fs, rfl, hx, q7, hf, V4, V5, q8⟩
 have q9 := hf _ (xm _ _)
 obtain ⟨ua, uc, rfl⟩ := q9.slice
 have J2 := zu8 hx
 have J3 := zu8 q7
 have k3 := zu8 q9
 have v0 := zu8 q8
 have J4 : Hid (fs.length ≤ 3) := zu8 (by have := hx.len; rw [q7, List.length_map] at this; exact this)
 have v3 := zu8 (q5.out.tape q6.out q8)
 clear hx q7 hf V4 V5 q8 q9
 unfold advV
 have v4 : Hid ((w5.alloc (.cells #[.string ⟨y.id.toArray⟩, .int .i64 y.rev, .int .i64 y.sev, .slice ua fs.length uc] 54)).heap[w5.heap.size]? = some (.cells #[.string ⟨y.id.toArray⟩, .int .i64 y.rev, .int .i64 y.sev, .slice ua fs.length uc] 54 (0, 0))) := zu8 (heap_alloc_new w5 _)
 have hc0 := zu7 v4.out 0
 have J5 := qw (o := 0) v4.out
 go_wp2_with (first
   | (refine zro rfl 9 _ _ rfl w5.heap.size 0 rfl (.string ⟨oth.toArray⟩) rfl _ hc0 J5 zgo rfl ?_)
   | fail)
 have k2 : Hid ((w5.alloc (.cells #[.string ⟨oth.toArray⟩, .int .i64 y.rev, .int .i64 y.sev, .slice ua fs.length uc] 54)).heap[w5.heap.size]? = some (.cells #[.string ⟨oth.toArray⟩, .int .i64 y.rev, .int .i64 y.sev, .slice ua fs.length uc] 54 (0, 0))) := zu8 (heap_alloc_new w5 _)
 have k4 : Below w5.heap.size w5 (w5.alloc (.cells #[.string ⟨oth.toArray⟩, .int .i64 y.rev, .int .i64 y.sev, .slice ua fs.length uc] 54)) := (zvb _ w5).alloc (zva _) _
 have h7 := zu8 k4
 clear k4 hc0 J5 v4
 generalize w5.alloc (.cells #[.string ⟨oth.toArray⟩, .int .i64 y.rev, .int .i64 y.sev, .slice ua fs.length uc] 54) = w6 at *
 have J6 := zu8 (k3.out.later h7.out)
 have V6 := zu8 (ko (v0.out.trans (zm h7.out (some w.heap.size))) (xm w6 none) (fun c e => by cases e))
 have Q8 : Hid (w5.heap.size < w6.heap.size) := zu8 (Array.getElem?_eq_some_iff.1 k2.out).1
 have v7 : Hid (∀ c, (Value.slice ua fs.length uc).ownBlock = some c -> W4.heap.size ≤ c /\ c < w5.heap.size) := zu8 (fun c e => ⟨GRow.block k3.out.row c e, GRow.lt k3.out.row c e⟩)
 have V7 : Hid (fs = [] ∨ ∃ g cap, Value.slice ua fs.length uc = .slice (some ⟨g, 0, none⟩) fs.length cap /\ ERow 70 4 fE w6 g fs) := zu8 (by
   rcases GRow.row zde J6.out.row with ⟨_, e⟩ | ⟨g, cap9, g5, _, _, g0⟩
   · exact .inl e
   · exact .inr ⟨g, cap9, g5, g0⟩)
 have Z4 := zu8 (v3.out.below h7.out)
 generalize w5.heap.size = X at *
 clear k3 v0 h7 v3
 go_loopw [7] (fun iv wx => ∃ i : Nat, i ≤ fs.length /\ iv = .int .i64 i /\ (fs = [] ∨ ∃ g cap, Value.slice ua fs.length uc = .slice (some ⟨g, 0, none⟩) fs.length cap /\ ERow 70 4 fE wx g (fsI fs i)) /\ w6.grownBy wx (Value.slice ua fs.length uc).ownBlock) (fun iv _ => fs.length - (intOf iv).toNat)
 case atStart => exact ⟨0, Nat.zero_le _, rfl, (by rw [← fsI_zero]; exact V7.out), xm _ _⟩
 case round =>
  obtain ⟨i, hi, rfl, J7, hg⟩ := hrel
  have v8 := zu8 hg
  have v9 : Hid (wr.heap[X]? = some (.cells #[.string ⟨oth.toArray⟩, .int .i64 y.rev, .int .i64 y.sev, .slice ua fs.length uc] 54 (0, 0))) := zu8 ((hg.block X Q8.out (fun e => by have := v7.out X e.symm; omega)).trans k2.out)
  have y0 := zu8 J7
  obtain ⟨_, _, _, c3⟩ := wj v9.out
  clear hg J7
  by_cases hlt : i < fs.length
  ·have Z8 : i < 100 := by have := J4.out; omega
   rcases y0.out with e | ⟨g, cap9, g5, g0⟩
   ·rw [e] at hlt; simp at hlt
   ·obtain ⟨e1, _, e3⟩ := Value.slice.inj g5
    subst e1 e3
    have j4 : i < (fsI fs i).length := by rw [fsI_len]; exact hlt
    have y1 : (fsI fs i)[i]'j4 = fs[i] := Option.some.inj ((List.getElem?_eq_getElem j4).symm.trans (fsI_at hlt))
    have y2 : Below wr.heap.size wr wr.drew := (zvb _ _).drew
    have J8 := g0.below y2
    have hcell := J8.at zde j4
    rw [y1] at hcell
    have y3 := fsI_set hlt
    obtain ⟨cs9, J9, _⟩ := J8
    have V8 := zu8 J9
    have HRD := zu8 (g0.below y2)
    have y4 : Hid (fs[i].1.name.length ≤ 200) := zu8 (by
      have h1 := J2.out.snd fs[i].1 (by rw [J3.out]; exact List.mem_map_of_mem (List.getElem_mem hlt))
      have h2 := (V.zc9 h1).1
      unfold V.jo at h2
      simp only [Bool.and_eq_true, decide_eq_true_eq] at h2
      exact h2.1.1.2)
    have k5 : ∀ p : Fs, fE (preF p) = (fE p).set 1 (.string ⟨(no5 ++ p.1.name).toArray⟩) := fun p => rfl
    have j9 := zu8 (ERow.put zde HRD.out j4 (j := 1) (by decide) (.string ⟨(no5 ++ fs[i].1.name).toArray⟩) (preF fs[i]) (by rw [y1]; exact k5 _))
    rw [y3] at j9
    obtain ⟨p, hp⟩ : ∃ p, p = fs[i]'hlt := ⟨_, rfl⟩
    rw [← hp] at hcell y4 j9
    have n0 := hcell 1 _ rfl
    have HN1 := zu8 n0
    have V9 := zu8 (qw (o := i * 4 + 1) V8.out)
    have Y0 : Hid (g ≠ X) := zu8 (fun e => by have := v7.out g rfl; omega)
    have Z9 : ¬ (9223372036854775807 < 5 + p.1.name.length) := by have := y4.out; omega
    have Q9 : Hid ((⟨#[110, 111, 110, 101, 47]⟩ : ByteArray) ++ ⟨p.1.name.toArray⟩ = ⟨(no5 ++ p.1.name).toArray⟩) := zu8 (cat_ba no5 p.1.name)
    have HGD : Hid (w6.grownBy (wr.drew.setCell ⟨g, i * 4 + 1, none⟩ (.string ⟨(no5 ++ p.1.name).toArray⟩)) (some g)) := zu8 ((zh6 v8.out).trans (qv _ _ _ _))
    have i1 : (0 : Int) ≤ (i : Int) := by omega
    have i2 : (i : Int) < (fs.length : Int) := by omega
    have HI := zu8 hlt
    clear hcell y3 J9 k5 hp g0 y2 g5 j4 y1
    go_wp2_with fail
    refine wp_region_held_drew (S := (fun W' => W'.cell? ⟨X, 3, none⟩ = some (.slice (some ⟨g, 0, none⟩) fs.length uc))) (by kernel_rfl) (by (try dsimp only); (try simp only [World.cell?_drew]); exact c3) (fun hHeld => ?_)
    generalize wr.drew = wd at *
    refine tk 0 ?_
    refine tk 1 ?_
    refine tk 2 ?_
    refine tk 3 ?_
    refine tk 4 ?_
    refine tk 5 ?_
    refine tk 6 ?_
    refine tk 7 ?_
    refine rd 8 fun K hK => ?_
    refine zdt rfl (.string ⟨p.1.name.toArray⟩) (by go_simp) ?_
    try dsimp only
    refine hK.out _ _ ?_ (fun hHeld => nx ?_)
    ·(try dsimp only); exact hHeld
    clear hK K
    refine tv 9 ((.string ⟨(no5 ++ p.1.name).toArray⟩)) ?_ ?_
    ·exact fun w' hSw => by go_simp; (try rw [Q9.out]); (try rfl)
    refine tk 10 ?_
    refine tk 11 ?_
    refine rd 12 fun K hK => ?_
    refine zdw rfl 9 _ _ rfl g (i * 4 + 1) rfl (.string ⟨(no5 ++ p.1.name).toArray⟩) rfl _ HN1.out V9.out zgo rfl ?_
    try dsimp only
    refine hK.out _ _ ?_ (fun hHeld => nx ?_)
    ·(try dsimp only); exact (World.cell?_setCell_other _ _ _ _ (by intro e; injection e with e1 e2; exact Y0.out e1)).trans hHeld
    clear hK K
    refine wpAnyH_done (by kernel_rfl) ?_ _
    clear hHeld
    go_wp2
    go_roundw
    case rel => exact ⟨i + 1, HI.out, by go_num, .inr ⟨g, _, rfl, j9.out⟩, HGD.out⟩
    case measure => have := HI.out; simp [intOf]; omega
  ·obtain rfl : i = fs.length := by omega
   have Y1 : fsI fs fs.length = fs.map preF := by unfold fsI; rw [List.take_length, List.drop_length, List.append_nil]
   have Y2 : Hid (GSl 4 fE wr (.slice ua fs.length uc) (fs.map preF)) := zu8 (by
     rcases y0.out with e | ⟨g, cap9, g5, g0⟩
     · subst e; exact ⟨_, _, rfl, fun j hj => by simp at hj⟩
     · rw [Y1] at g0
       have h1 := g0.gsl zde (cap := cap9)
       rw [List.length_map] at h1
       rw [g5]; exact h1)
   have Y3 : Hid (∀ p ∈ fs.map preF, AffWf p.1 /\ p.2.n = p.1.its.length /\ Itvs wr p.2.v p.1.its) := zu8 (fun p hp => by
     obtain ⟨q, hq, rfl⟩ := List.mem_map.1 hp
     obtain ⟨h1, h2, h3, h4⟩ := J6.out.each q hq
     have h5 := J2.out.snd q.1 (by rw [J3.out]; exact List.mem_map_of_mem hq)
     have h6 := (V.zc9 h5).1
     unfold V.jo at h6
     simp only [Bool.and_eq_true, decide_eq_true_eq] at h6
     exact ⟨⟨by show (no5 ++ q.1.name).length ≤ maxLen; rw [List.length_append]; have := h6.1.1.2; unfold maxLen; simp [no5]; omega, h1.lens, h1.len⟩, h2, h3.grown v8.out (fun q1 c hc e => h4 q1 c hc e)⟩)
   have Y4 : Hid (Affs wr (.slice ua fs.length uc) ((fs.map preF).map (·.1))) := zu8 (affs_of Y2.out Y3.out)
   have j5 : Hid (W4.grownBy wr (some w.heap.size)) := zu8 (ko V6.out v8.out (fun c e => (v7.out c e).1))
   obtain ⟨nw, j6⟩ : ∃ nw : NS, nw = ⟨⟨⟨oth, y.rev, y.sev, (fs.map preF).map (·.1)⟩, dig1 99⟩, ⟨ua, fs.length, uc⟩, ⟨none, 0, 0⟩⟩ := ⟨_, rfl⟩
   have HNW := zu8 j6
   have k0 := zu8 (Q4.out.tape j5.out Q6.out)
   have U0 := zu8 (Q5.out.kept j5.out (fun g e => by cases e; exact k1.out))
   have Y5 := zu8 (q5.out.tape q6.out j5.out)
   have y5 : Hid (wr.heap[w3.heap.size]? = some (.cells ic 29 (0, 0))) := zu8 ((j5.out.block w3.heap.size V3.out (fun e => by have := Q7.out; have := Option.some.inj e; omega)).trans V0.out)
   have y6 := zu8 (GRow.gsl uy k0.out.row)
   rw [j2.out] at y6
   have U1 : Hid (NOk wr nw.nv) := zu8 (by
     rw [j6]
     exact ⟨⟨rfl, d99_ok⟩, Y4.out, rfl, by show oth.length ≤ maxLen; decide, by show ((fs.map preF).map (·.1)).length ≤ maxLen; rw [List.length_map, List.length_map]; have := J4.out; unfold maxLen; omega⟩)
   have U2 : Hid (X < wr.heap.size) := zu8 (Array.getElem?_eq_some_iff.1 v9.out).1
   have Q0 : Hid (Below w.heap.size w wr) := zu8 (HB4.out.trans (qj j5.out (zva _) HB4.out.size))
   go_wp2_with fail
   refine wp_region_held_drew (S := (fun W' => Below wr.heap.size wr W')) (by kernel_rfl) ((zvb _ _).drew) (fun hHeld => ?_)
   refine tk 0 ?_
   refine tv 2 ((.agg #[.string ⟨oth.toArray⟩, .int .i64 y.rev, .int .i64 y.sev, .slice ua fs.length uc])) ?_ ?_
   ·exact fun w' hSw => zcx (ty := 54) rfl rfl (zcg ((hSw.block X U2.out).trans v9.out) Tryz.underlying54 rfl zi3)
   refine tv 3 ((.agg (dcells (dig1 99)))) ?_ ?_
   ·exact fun w' hSw => by refine zoe (parts := #[(0, .const (.int .u8 99))]) rfl ?_; kernel_rfl
   refine tv 4 ((.agg (nE nw).toArray)) ?_ ?_
   ·exact fun w' hSw => by refine zoe (parts := #[(0, .tmp 39), (1, .tmp 40)]) rfl ?_; rw [j6]; kernel_rfl
   refine wpAnyH_ready (rs := [1, 5]) (by kernel_rfl) (by simp) ?_
   refine (AllReadyH.cons (o := _) rfl (fun K hK => ?g1) (AllReadyH.cons (o := _) rfl (fun K hK => ?g2) AllReadyH.nil))
   case' g1 =>
    refine ya uy (by decide) zew zbh (by decide) rfl _ _ 31 rfl Tryz.underlying31 wr.heap.size (.slice none 0 0) [] rfl (GRow.nil _ _) (.slice na xs.length nc) us rfl (y6.out.below hHeld) (by have := g3.out; simp; omega) hHeld.size (fun v1 wA j7 hg1 Y6 => ?_)
    rw [List.nil_append] at j7
    have hb1 := zjb hg1 (zva _)
    have g8 : GRow 57 37 nE wA wr.heap.size v1 us := j7
    try have h8 := g4.below hb1
    refine hK.out _ _ ?_ (fun hHeld => nx ?_)
    ·exact hHeld.trans (hb1.mono hHeld.size)
    clear hK K
    refine rd 5 fun K hK => ?_
    refine zcf uy (by decide) (by decide) zbh Tryz.underlying31 rfl _ rfl nw (by simp only [j6]; rfl) ?_
    first
     | have g4 := zfk wA nw
     | have g4 := zfk wr.drew nw
    first
     | have g9 := (zvb _ wA).alloc (zva _) (.cells (nE nw).toArray 57)
     | have g9 := (zvb _ wr.drew).alloc (zva _) (.cells (nE nw).toArray 57)
    try have hk2 := GRow.below g8 g9
    refine hK.out _ _ ?_ (fun hHeld => nx ?_)
    ·exact hHeld.trans (g9.mono hHeld.size)
    clear hK K
    refine rd 6 fun K hK => ?_
    first
     | refine ya uy (by decide) zew zbh (by decide) rfl _ _ 31 rfl Tryz.underlying31 wr.heap.size _ us rfl hk2 _ [nw] rfl g4 (by have := g3.out; simp; omega) hHeld.size (fun v6 w6 k6 h0 y7 => ?_)
     | refine ya uy (by decide) zew zbh (by decide) rfl _ _ 31 rfl Tryz.underlying31 wr.heap.size _ us rfl g8 _ [nw] rfl h8 (by have := g3.out; simp; omega) hHeld.size (fun v6 w6 k6 h0 y7 => ?_)
    refine hK.out _ _ ?_ (fun hHeld => nx ?_)
    ·first | exact hHeld.grown h0 hHeld.size (fun b hb => GRow.block hk2 b hb) | exact hHeld.grown h0 hHeld.size (fun b hb => GRow.block g8 b hb)
    clear hK K
    refine tk 7 ?_
    refine wpAnyH_done (by kernel_rfl) ?_ _
   case' g2 =>
    refine zcf uy (by decide) (by decide) zbh Tryz.underlying31 rfl _ rfl nw (by simp only [j6]; rfl) ?_
    first
     | have g4 := zfk wA nw
     | have g4 := zfk wr.drew nw
    first
     | have g9 := (zvb _ wA).alloc (zva _) (.cells (nE nw).toArray 57)
     | have g9 := (zvb _ wr.drew).alloc (zva _) (.cells (nE nw).toArray 57)
    try have hk2 := GRow.below g8 g9
    refine hK.out _ _ ?_ (fun hHeld => nx ?_)
    ·exact hHeld.trans (g9.mono hHeld.size)
    clear hK K
    refine rd 1 fun K hK => ?_
    refine ya uy (by decide) zew zbh (by decide) rfl _ _ 31 rfl Tryz.underlying31 wr.heap.size (.slice none 0 0) [] rfl (GRow.nil _ _) (.slice na xs.length nc) us rfl (y6.out.below hHeld) (by have := g3.out; simp; omega) hHeld.size (fun v1 wA j7 hg1 Y6 => ?_)
    rw [List.nil_append] at j7
    have hb1 := zjb hg1 (zva _)
    have g8 : GRow 57 37 nE wA wr.heap.size v1 us := j7
    try have h8 := g4.below hb1
    refine hK.out _ _ ?_ (fun hHeld => nx ?_)
    ·exact hHeld.trans (hb1.mono hHeld.size)
    clear hK K
    refine rd 6 fun K hK => ?_
    first
     | refine ya uy (by decide) zew zbh (by decide) rfl _ _ 31 rfl Tryz.underlying31 wr.heap.size _ us rfl hk2 _ [nw] rfl g4 (by have := g3.out; simp; omega) hHeld.size (fun v6 w6 k6 h0 y7 => ?_)
     | refine ya uy (by decide) zew zbh (by decide) rfl _ _ 31 rfl Tryz.underlying31 wr.heap.size _ us rfl g8 _ [nw] rfl h8 (by have := g3.out; simp; omega) hHeld.size (fun v6 w6 k6 h0 y7 => ?_)
    refine hK.out _ _ ?_ (fun hHeld => nx ?_)
    ·first | exact hHeld.grown h0 hHeld.size (fun b hb => GRow.block hk2 b hb) | exact hHeld.grown h0 hHeld.size (fun b hb => GRow.block g8 b hb)
    clear hK K
    refine tk 7 ?_
    refine wpAnyH_done (by kernel_rfl) ?_ _
   all_goals
    have g7 := zu8 hHeld
    have Y7 := zu8 (GRow.gsl uy k6)
    clear hHeld
    generalize w6 = w9 at *
    have y8 := zu8 (Y5.out.below g7.out)
    have Q1 := zu8 (U0.out.comps.below g7.out)
    have Q2 := zu8 (k0.out.notes.below g7.out)
    rw [J1.out, j2.out] at Q2
    have Y8 : Hid (Notes w9 v6 ((us ++ [nw]).map (·.nv))) := zu8 (notes_of Y7.out (fun p hp => by
      rcases List.mem_append.1 hp with hp | hp
      · exact ((k0.out.each p hp).ok).below g7.out
      · rw [List.mem_singleton.1 hp]; exact U1.out.below g7.out))
    have y9 : Hid (V.kt (V.qt (dig1 x) r l) (((us ++ [nw]).map (·.nv)).map (·.n)) l = V.kt (V.qt (dig1 x) r l) (xs.map (·.n)) l) := zu8 (by
      rw [List.map_append, List.map_append, J1.out]
      refine V.zuu (fun c hc a ha => ?_)
      rw [HNW.out] at ha
      obtain ⟨q, hq, rfl⟩ := List.mem_map.1 ha
      obtain ⟨z, hz, rfl⟩ := List.mem_map.1 hq
      exact ztr (Q3.out c hc))
    have HXl9b : Hid (w3.heap.size < w9.heap.size) := zu8 (by
      have h1 := (Array.getElem?_eq_some_iff.1 y5.out).1
      have h2 := g7.out.size
      omega)
    have HG9 := zu8 ((g7.out.block w3.heap.size (Array.getElem?_eq_some_iff.1 y5.out).1).trans y5.out)
    have HB9 := zu8 (Q0.out.trans (g7.out.mono Q0.out.size))
    go_wp2_with fail
    refine wp_region_held_drew (S := (fun W' => Below w9.heap.size w9 W')) (by kernel_rfl) ((zvb _ w9).drew) (fun hHeld => ?_)
    refine tv 0 (.agg ic) ?_ ?_
    ·exact zxl
    refine tk 1 ?_
    refine tv 3 (.agg ic) ?_ ?_
    ·exact zxl
    refine tk 4 ?_
    refine rd 2 fun K hK => ?_
    go_simp
    have z0 := zbr (dig1 x) r _ l v6 ((us ++ [nw]).map (·.nv)) _ (y8.out.below hHeld) G8.out G9.out (Q1.out.below hHeld) (by have := j3.out.1; omega) (Y8.out.below hHeld) (by have := g3.out; simp; omega)
    rw [← h9.out] at z0
    refine z0.mono ?_
    clear z0
    rintro e w2 ⟨v2, us2, rfl, Y9, z1, hb2⟩
    try dsimp only
    have H2 := zu8 Y9.list
    refine hK.out _ _ ?_ (fun hHeld => nx ?_)
    ·(try dsimp only); exact hHeld.trans (hb2.mono hHeld.size)
    clear hK K
    refine rd 5 fun K hK => ?_
    go_simp
    have z2 := zbr (dig1 x) r _ l (.slice na xs.length nc) xs _ (y8.out.below hHeld) G8.out G9.out (Q1.out.below hHeld) (by have := j3.out.1; omega) (Q2.out.below hHeld) (by have := j3.out.2; omega)
    rw [← h9.out] at z2
    refine z2.mono ?_
    clear z2
    rintro e w5 ⟨v5, us5, rfl, Z0, Z1, hb5⟩
    try dsimp only
    have H5 := zu8 Z0.list
    replace H2 := zu8 (H2.out.below hb5)
    refine hK.out _ _ ?_ (fun hHeld => nx ?_)
    ·(try dsimp only); exact hHeld.trans (hb5.mono hHeld.size)
    clear hK K
    refine rd 6 fun K hK => ?_
    go_simp
    refine (zeo _ _ us2 us5 _ H2.out H5.out (z1.trans (y9.out.trans Z1.symm)) (fun p hp => zmh j3.out.2 (z1.trans y9.out) p hp) (zeb j3.out (z1.trans y9.out))).mono ?_
    rintro e w7 ⟨rfl, k4⟩
    try dsimp only
    refine hK.out _ _ ?_ (fun hHeld => nx ?_)
    ·(try dsimp only); exact hHeld.trans (k4.mono hHeld.size)
    clear hK K
    refine tk 7 ?_
    refine rd 8 fun K hK => ?_
    go_simp
    refine (vy _ (y8.out.below hHeld)).mono ?_
    rintro e w8 ⟨rfl, Z2⟩
    try dsimp only
    refine hK.out _ _ ?_ (fun hHeld => nx ?_)
    ·(try dsimp only); exact hHeld.trans (Z2.mono hHeld.size)
    clear hK K
    refine tk 9 ?_
    refine tk 10 ?_
    refine wpAnyH_done (by kernel_rfl) ?_ _
    have HE := zu9 HB9 hHeld
    clear hHeld
    go_wp2
    go_ret
    exact ⟨rfl, HE.out⟩
open Go.ChangeShapes Go.WideShapes Go.ChangeAt Go.RowKit
theorem cellsI : Tryz.prog.cellsOf 3 = 1 := by kernel_rfl
theorem zuh {H : Type} {enc : TypeId × Value -> H} {W : World} {base : Nat} {v : Value} {d : DataW H} {p : List MemPlace} (hv : Value.okWide Tryz.prog W .any base 22 v)
  (h : DataW.Trod enc Tryz.prog W 0 (fun _ => true) true 22 v d p) : ∃ a m cap, v = .slice a m cap /\ Nums W a m := by
 obtain ⟨a0, len, cap, rfl⟩ := okWide_slice Tryz.underlying22 hv
 refine ⟨a0, len, cap, rfl, ?_⟩
 obtain ⟨fuel0, hf⟩ := h
 rcases open_ints Tryz.underlying22 Tryz.underlying3 cellsI hf with ⟨hcs, hx⟩ | ⟨a, len', cap', zs, hcs, _, hl, hm, hz, hx, hcell, g1⟩
 ·simp [Value.cells] at hcs
  obtain ⟨rfl, rfl, rfl⟩ := hcs
  exact ⟨by decide, fun j hj => absurd hj (by omega)⟩
 ·simp [Value.cells] at hcs
  obtain ⟨rfl, rfl, rfl⟩ := hcs
  simp only [if_true] at hz
  refine ⟨by omega, fun j hj => ?_⟩
  obtain ⟨b, off, spot⟩ := a
  have g0 : spot = none := by simpa [Addr.add] using World.cell?_spot (hcell 0 (by omega))
  subst g0
  have hc := hcell j (by omega)
  rw [add_plain] at hc
  have g2 : zs.getD j 0 ∈ zs := by rw [List.getD_eq_getElem?_getD, List.getElem?_eq_getElem (by omega)]; exact List.getElem_mem _
  exact ⟨b, off, zs.getD j 0, rfl, World.block_lt_of_cell? _ _ hc, hc, g1 _ g2⟩
open Go.ChangeShapes Go.WideShapes Go.ChangeAt Go.RowKit
theorem zi1 {H : Type} {enc : TypeId × Value -> H} {W : World} {base : Nat} {v : Value} {d : DataW H} {p : List MemPlace} (hv : Value.okWide Tryz.prog W .any base 22 v)
  (h : DataW.Trod enc Tryz.prog W 0 (fun _ => true) true 22 v d p) : ∃ a m cap, v = .slice a m cap /\ Nums W a m /\ m ≤ cap := by
 obtain ⟨a1, m1, c1, e1, hn⟩ := zuh hv h
 obtain ⟨a0, len, cap, rfl⟩ := okWide_slice Tryz.underlying22 hv
 cases e1
 refine ⟨_, _, _, rfl, hn, ?_⟩
 obtain ⟨fuel0, hf⟩ := h
 rcases open_ints Tryz.underlying22 Tryz.underlying3 cellsI hf with ⟨hcs, hx⟩ | ⟨a, len', cap', zs, hcs, _, hl, hm, hz, hx, hcell, g0⟩
 ·simp [Value.cells] at hcs
  obtain ⟨rfl, rfl, rfl⟩ := hcs
  exact zva _
 ·simp [Value.cells] at hcs
  obtain ⟨rfl, rfl, rfl⟩ := hcs
  exact hl
end Go.Proofs.YtbikeahmldobkaaGreatDoor
namespace Go.Proofs.YtbikeahmldobkaaGreatDoor.laying
open Go.RowKit
theorem own : ownKnob Tryz.prog.godebug = none := by kernel_rfl
theorem laidOut : laidOutB Tryz.prog = true := by kernel_rfl
mutual
def flat : DataW Unit -> List Value
 | .lit (.int k n) => [.int k n]
 | .agg ps => zs7 ps
 | _ => []
def zs7 : List (DataW Unit) -> List Value
 | [] => []
 | d :: r => flat d ++ zs7 r
end
def zo3 (l : List Value) : Obj -> Obj
 | .cells _ t frozen => .cells l.toArray t frozen
 | o => o
noncomputable def laidWorld (os : Os) : World :=
 { World.holding Tryz.prog os ⟨#[], #[], []⟩ with
   heap := ((World.holding Tryz.prog os ⟨#[], #[], []⟩).heap.modify 2 (zo3 (flat Rows.laid_unicode_utf8_acceptRanges))).modify 1 (zo3 (flat Rows.laid_unicode_utf8_first)) }
end Go.Proofs.YtbikeahmldobkaaGreatDoor.laying
namespace Go.Proofs.YtbikeahmldobkaaGreatDoor
open Go.RowKit
theorem zk7 : laidOutB Tryz.prog = true := by kernel_rfl
theorem zl6 : mapsRowed Tryz.prog = true := by kernel_rfl
end Go.Proofs.YtbikeahmldobkaaGreatDoor
