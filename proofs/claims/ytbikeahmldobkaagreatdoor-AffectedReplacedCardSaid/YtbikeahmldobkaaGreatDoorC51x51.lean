/-
  Lemmas for the law.
-/
import Derived.Test.YtbikeahmldobkaaGreatDoorC51x41
import Derived.Test.YtbikeahmldobkaaGreatDoorC51x32
import Derived.Test.YtbikeahmldobkaaGreatDoorC51x09
import Derived.Test.YtbikeahmldobkaaGreatDoorC51x47
import Derived.Test.YtbikeahmldobkaaGreatDoorC51x34
set_option linter.all false
set_option maxRecDepth 100000
set_option maxHeartbeats 6400000
namespace Go.Proofs.YtbikeahmldobkaaGreatDoor
open Go.RowKit
theorem CRow.addr {w : World} {N : Nat} {v : Value} {l : List V.Comp} (h : CRow w N v l) : v = .slice none 0 0 /\ l = [] ∨ ∃ g cap cur, v = .slice (some ⟨g, 0, none⟩) l.length cap /\ N ≤ g /\ w.heap[g]? = some (.cells cur 60 (0, 0)) := by
 obtain ⟨⟨_, h⟩, _⟩ := h
 rcases h with ⟨rfl, h0⟩ | ⟨g, cap, cur, rfl, hb, hg, _⟩
 ·exact .inl ⟨rfl, List.eq_nil_of_length_eq_zero h0⟩
 ·exact .inr ⟨g, cap, cur, rfl, hb, hg⟩
theorem Comps.grow {w w' : World} {v : Value} {l : List V.Comp} {b : Nat} (h : Comps w v l) (hg : w.grownBy w' (some b)) (g0 : ∀ a n c, v = .slice (some a) n c -> a.block ≠ b) : Comps w' v l := by
 obtain ⟨a, cap, rfl, g1⟩ := h
 refine ⟨a, cap, rfl, fun j hj => ?_⟩
 obtain ⟨hw, g, off, rfl, hlt, hr⟩ := g1 j hj
 have g2 := g0 _ _ _ rfl
 have hk := hg.block g hlt (fun e => g2 (by cases e; rfl))
 refine ⟨hw, g, off, rfl, Nat.lt_of_lt_of_le hlt hg.size, fun i u hu => ?_⟩
 rw [World.cell?_of_block (a := ⟨g, off + j * 36 + i, none⟩) hk]
 exact hr i u hu
namespace OInv
variable {w : World} {b k X : Nat} {d : List Int} {t : Int} {v : Value} {l : List V.Comp} {W W' : World}
end OInv
open Go.RowKit
namespace V
theorem comp_ok {l : List Comp} (ho : qf l l.length = true) {k : Nat} (h : k < l.length) : xq l[k] = true := (zez.1 (zj9 ho h)).1
end V
open Go.RowKit
namespace V
theorem zix {n : Int} {s cur : Bs} {ys : List Note} {vs : List Bs} : ∀ {k : Nat}, (upTo n s cur ys vs k).2 = true -> (ys.any fun x => covP x.adv n s (upTo n s cur ys vs k).1) = false
 | 0, h => by simp [upTo] at h
 | k + 1, h => by
  by_cases hk : k < vs.length
  ·have ih := zix (n := n) (s := s) (cur := cur) (ys := ys) (vs := vs) (k := k)
   rw [zf8 hk] at h ⊢
   generalize upTo n s cur ys vs k = st at *
   unfold zc8 at *
   split at h
   ·rename_i h1; rw [if_pos h1]; exact ih h
   ·rename_i h1
    rw [if_neg h1]
    split at h
    ·rename_i h2; rw [if_pos h2]; exact ih h
    ·rename_i h2
     rw [if_neg h2]
     simpa using h2
  ·have e : upTo n s cur ys vs (k + 1) = upTo n s cur ys vs k := by unfold upTo; rw [List.take_of_length_le (by omega), List.take_of_length_le (by omega)]
   rw [e] at h ⊢
   exact zix h
theorem zur {d : List Int} {r : Int} {l : List Comp} {q : Nat} {c : Comp} (h : qt d r (l.set q c) = true) (ho : qf l l.length = true) : qt d r l = true := by
 unfold qt zf9 at *
 rw [List.length_set] at h
 rw [ho, Bool.and_true]
 exact (Bool.and_eq_true_iff.1 h).1
theorem zku {xs : List Note} {l : List Comp} {q : Nat} {c : Comp} (h : ∀ x ∈ xs, cov x c = false) : kt true xs (l.set q c) = (kt true xs l).filter fun x => !decide (x.comp = (q : Int)) := by
 unfold kt
 rw [if_pos rfl, if_pos rfl, List.length_set]
 exact zia (zri h) (zva _)
end V
theorem zdb (a : Option Addr) (m cap : Nat) (c0 : Int) (w : World) (hm : zj w) (ht : Nums w a m) (U8 : m ≤ cap) (hc : (Lit.int .i64 c0).wf = true) :
  Calls Tryz.prog 7 #[.slice a m cap, .int .i64 c0] w fun e w' => e = .returned (.bool true) /\ Below w.heap.size w w' := by
 have bn := zu8 hc
 clear hc
 have HM := zu8 hm
 have HT := zu8 (And.intro ht U8)
 clear hm ht U8
 go_enter Tryz.func7, Tryz.ntmps7
 go_wp2_with fail
 refine (zme a m cap 250 w HT.out.1 HT.out.2 (by decide)).mono ?_
 rintro e w1 ⟨rfl, ht1, hb1, U9⟩
 have HT1 := zu8 ht1
 have HB1 := zu8 hb1
 have y8 := zu8 U9
 clear ht1 hb1 U9
 go_wp2_with fail
 refine (cinv_any w.heap.size 0 6 w1 HT1.out (by decide) (by decide)).mono ?_
 rintro e w2 ⟨x, r, v, l, V0, V1, h9, hl, V2, rfl, j0, V3, j3⟩
 have HX1 := zu8 V0
 have bo := zu8 V1
 have HR9 := zu8 h9
 have j4 := zu8 hl
 have V4 := zu8 V2
 have y9 := zu8 j0
 have V5 := zu8 V3
 have V6 := zu8 j3
 have bp := zu8 (HM.out.below HB1.out)
 have V7 := zu8 (bp.out.tape HT1.out j3)
 obtain ⟨va, vc, bq, U4⟩ := j0.comps
 subst bq
 obtain ⟨ic, z5⟩ : ∃ ic, ic = (icells (dig1 x) r (.slice va l.length vc)) := ⟨_, rfl⟩
 have h4 := zu8 z5
 rw [← z5]
 clear V0 V1 h9 hl V2 j0 V3 j3 U4 z5
 go_wp2_with fail
 refine (zle w.heap.size (0 + 3 + 6 * 6) 5 w2 V7.out V5.out (by decide) (by decide)).mono ?_
 rintro e w3 ⟨nv, us, rfl, z6, k8, V8, hg3⟩
 have di := zu8 z6
 have br := zu8 k8
 have V9 := zu8 V8
 have bs := zu8 (V7.out.tape V5.out hg3)
 have q4 := zu8 (y9.out.kept hg3 (fun g e => by cases e; exact y8.out))
 have HB3 := zu8 (HB1.out.trans ((qj (V6.out.trans hg3) (zva _) (Nat.le_of_lt y8.out)).mono (zva _)))
 have HN3 := zu8 k8.notes
 obtain ⟨na, nc, bt⟩ := k8.row.slice
 subst bt
 have z7 := qn (d := dig1 x) rfl r (.slice va l.length vc)
 have HIN : Hid ((Tryz.prog.info? 29).map (·.size) = some ic.size) := zu8 (by rw [h4.out, xu, z7])
 have bu : Hid (ic.size = 34) := zu8 (by rw [h4.out, z7])
 have HS : Hid ((icells zq 0 (.slice none 0 0)).size = ic.size) := zu8 (by rw [bu.out, qn rfl])
 have HO : Hid (ic.all (·.oneCell') = true) := zu8 (by rw [h4.out]; exact zck q4.out.comps.one)
 have z8 : (w3.alloc (.cells (icells zq 0 (.slice none 0 0)) 29)).heap[w3.heap.size]? = some (.cells (icells zq 0 (.slice none 0 0)) 29 (0, 0)) := heap_alloc_new w3 _
 have h5 : Below w3.heap.size w3 ((w3.alloc (.cells (icells zq 0 (.slice none 0 0)) 29)).setRow w3.heap.size ic) :=
  ((zvb _ w3).alloc (zva _) _).trans (qj (zz _ _ _) (zva _) (by simp))
 obtain ⟨W4, k9⟩ : ∃ W4, W4 = (w3.alloc (.cells (icells zq 0 (.slice none 0 0)) 29)).setRow w3.heap.size ic := ⟨_, rfl⟩
 rw [← k9] at h5
 have Y0 := zu8 k9
 have z9 := zu8 h5
 have HB4 := zu9 HB3 h5
 have Y1 := zu8 (bs.out.below h5)
 have bv := zu8 (q4.out.comps.below h5)
 have HN4 := zu8 (HN3.out.below h5)
 have Y2 := zu8 (V9.out.below h5)
 have Y3 : Hid (W4.heap[w3.heap.size]? = some (.cells ic 29 (0, 0))) := zu8 (by rw [k9]; exact setRow_heap _ _ _ _ _ _ z8)
 have bw : Hid (W4.heap.size = w3.heap.size + 1) := zu8 (by rw [k9]; simp)
 have Y4 := zu8 z8
 have Y5 : Hid ((us.map (·.nv)).length ≤ 5) := zu8 (by rw [List.length_map]; exact z6)
 have G0 : Hid (us.length = (us.map (·.nv)).length) := zu8 (by rw [List.length_map])
 rw [G0.out] at HN4
 rw [G0.out]
 have df : Hid (∀ y ∈ us.map (·.nv), V.MadeV y.n.adv) := zu8 (fun y hy => by
   obtain ⟨p, hp, rfl⟩ := List.mem_map.1 hy
   exact (k8.each p hp).made)
 have z0 : Hid ((dig1 x).length = 32) := zu8 rfl
 have G1 : Hid (∀ n ∈ dig1 (x : Int), (Lit.int .u8 n).wf = true) := zu8 (zsj x bo.out)
 generalize Y6 : us.map (·.nv) = xs at *
 have bx := zu8 Y6
 clear Y6
 clear z6 k8 V8 hg3 z7 z8 h5 k9
 have j5 : Hid (l.length ≤ 12 /\ xs.length ≤ 8) := zu8 ⟨by have := j4.out; omega, by have := Y5.out; omega⟩
 have Y7 : Hid (w3.heap.size < W4.heap.size) := zu8 (by rw [bw.out]; omega)
 have z1 : Hid (∀ v : Value, (icells (dig1 x) r v)[33]? = some v) := zu8 (fun v => zb5 z0.out r v)
 have G2 : Hid (∀ v : Value, (icells (dig1 x) r v).size = 34) := zu8 (fun v => qn rfl r v)
 have G3 : Hid (w.heap.size < w3.heap.size) := zu8 V9.out.lt
 have ag : Hid (w.heap.size < w2.heap.size) := zu8 (Nat.lt_of_lt_of_le y8.out V6.out.size)
 have ai := zu8 (br.out.call z9.out)
 have aj := zu8 (q4.out.kept (row := none) (zm z9.out none) (fun g e => by cases e))
 have j8 : W4.cell? ⟨w3.heap.size, 33, none⟩ = some (.slice va l.length vc) := by rw [cell_of_row W4 w3.heap.size 33 _ _ _ Y3.out, h4.out]; exact z1.out _
 by_cases hl0 : l.length = 0
 ·have hl1 : (l.length : Int) = 0 := by omega
  go_wp2_with (first | (rw [zb3]; refine wpList_store_row rfl _ _ _ rfl w3.heap.size ic rfl rfl 29 _ Y4.out HIN.out HS.out HO.out ?_; rw [← Y0.out]) | fail)
  refine (vy _ Y1.out).mono ?_
  rintro e wz ⟨rfl, g3⟩
  have HE := zu8 (HB4.out.trans (g3.mono (HB4.out).size))
  clear g3
  go_wp2
  go_ret
  exact ⟨rfl, HE.out⟩
 ·have hl1 : ((l.length : Int) == 0) = false := by rw [zvc]; omega
  go_wp2_with (first | (rw [zb3]; refine wpList_store_row rfl _ _ _ rfl w3.heap.size ic rfl rfl 29 _ Y4.out HIN.out HS.out HO.out ?_; rw [← Y0.out]) | fail)
  refine (zpw c0 l.length W4 bn.out (by omega) (by have := j4.out; omega)).mono ?_
  rintro e W5 ⟨q, rfl, hq, G4⟩
  replace G4 := G4.symm
  subst G4
  have q0 : q < l.length := by omega
  obtain ⟨Y8, b, off, bz, ca, j0⟩ := bv.out.at q q0
  subst bz
  have g0 := zu8 Y8
  have G5 := zu8 q0
  have G6 := zu8 (V.comp_ok V4.out q0)
  have y9 := zu8 j0
  have cc : Hid (∀ c' : V.Comp, (∀ u, qb c' = (qb (l[q]'q0)).set 3 u -> qb c' = (qb l[q]).set 3 u)) := zu8 (fun _ _ h => h)
  obtain ⟨c, G7⟩ : ∃ c, c = l[q]'q0 := ⟨_, rfl⟩
  have cd := zu8 G7
  rw [← G7] at g0 G6 y9
  have i1 : (0 : Int) ≤ (q : Int) := by omega
  have i2 : (q : Int) < (l.length : Int) := by omega
  clear Y8 j0 ca G7 cc hq hl0
  have ce := vd c W4 60
  have Y9 := zu8 (heap_alloc_new W4 (.cells (ccells c) 60))
  have hb5 : Below W4.heap.size W4 (W4.alloc (.cells (ccells c) 60)) := (zvb _ W4).alloc (zva _) _
  have ak := zu8 hb5
  have cf := zu8 (Y2.out.below hb5)
  clear hb5
  go_wp2_with (first
    | (refine vm rfl _ rfl b (off + q * 36) rfl c g0.out y9.out ?_)
    | (refine zbp rfl _ _ rfl _ _ rfl c g0.out rfl rfl ?_
       generalize W4.alloc (.cells (ccells c) 60) = w5 at *)
    | fail)
  clear j8
  refine (jq w.heap.size _ 8 w5 cf.out (by decide) (by decide) (by decide)).mono ?_
  rintro e w7 ⟨r7, dj, rfl, ht7, hg7⟩
  have cg := zu8 ht7
  have HG7 := zu8 hg7
  have q5 : Hid (W4.heap.size < w5.heap.size) := zu8 (Array.getElem?_eq_some_iff.1 Y9.out).1
  have HSC : Hid (V.scheme c.sch = true) := zu8 (by
    have h3 := V.zny (V.zis.1 G6.out).2
    rcases h3 with h3 | h3 | h3 <;> (rw [h3]; decide))
  have q6 : Hid (w.heap.size < W4.heap.size) := zu8 (Nat.lt_trans G3.out Y7.out)
  clear ht7 hg7 ce
  go_wp2_with fail
  go_loopw [10, 11] (fun sv iv wx => ∃ (n : Nat) (vs : List V.Bs), n + vs.length ≤ 7 /\ iv = .int .i64 n /\ GRow 9 1 sE wx w7.heap.size sv vs /\ (∀ x ∈ vs, V.valid c.sch x = true) /\ Tape wx w.heap.size (300 - n) /\ w7.grownBy wx (some w.heap.size)) (fun _ iv _ => (intOf iv).toNat)
  case atStart => exact ⟨r7, [], by simp; omega, rfl, GRow.nil _ _, fun x hx => by simp at hx, cg.out.le (by omega), xm _ _⟩
  case round =>
   obtain ⟨n, vs, hn, rfl, g7, Z0, ht, hg⟩ := hrel
   have q7 := zu8 g7
   have Z1 := zu8 Z0
   have ci := zu8 ht
   have HG := zu8 hg
   have cj := zu8 (HG7.out.trans hg)
   have q8 := zu8 (((HG7.out.trans hg).block W4.heap.size q5.out (fun e => by have := q6.out; have := Option.some.inj e; omega)).trans Y9.out)
   have k1 : wr.cell? ⟨W4.heap.size, 1, none⟩ = some (.int .i64 c.sch) := (zu7 q8.out 1).trans rfl
   have k2 : wr.cell? ⟨W4.heap.size, 2, none⟩ = some (.string ⟨c.name.toArray⟩) := (zu7 q8.out 2).trans rfl
   have k3 : wr.cell? ⟨W4.heap.size, 3, none⟩ = some (.string ⟨c.ver.toArray⟩) := (zu7 q8.out 3).trans rfl
   obtain ⟨sa, sc, G8⟩ := g7.slice
   subst G8
   clear g7 Z0 ht hg
   rcases n with _ | j
   ·have q1 : Hid (W4.grownBy wr (some w.heap.size)) := zu8 ((zm ak.out (some w.heap.size)).trans cj.out)
    have al := zu8 (ai.out.tape q1.out ag.out)
    have G9 := zu8 al.out.notes
    rw [bx.out, G0.out] at G9
    have ao := zu8 (aj.out.kept q1.out (fun g e => by cases e; exact y8.out))
    have Z2 := zu8 (Y1.out.tape Y2.out q1.out)
    have Z3 : Hid (wr.heap[w3.heap.size]? = some (.cells ic 29 (0, 0))) := zu8 ((q1.out.block w3.heap.size Y7.out (fun e => by have := G3.out; have := Option.some.inj e; omega)).trans Y3.out)
    have ck : Hid (Below w.heap.size w wr) := zu8 (HB4.out.trans (qj q1.out (zva _) HB4.out.size))
    have cl := zu8 (GRow.gsl zrj q7.out).strs
    have Z4 : Hid (∀ x ∈ vs, x.length ≤ maxLen) := zu8 (fun x hx => by have := (V.valid_len (Z1.out x hx)).2; unfold maxLen; omega)
    have dk : vs.length ≤ 7 := by omega
    go_wp2_with fail
    refine (zgy _ xs c.sch c.name c.ver (.slice sa vs.length sc) vs wr Z2.out G9.out (by have := j5.out.2; omega) g0.out.ver cl.out (by omega) Z4.out).mono ?_
    rintro e w8 ⟨rfl, j6⟩
    have J0 := zu8 (V.zix (n := c.sch) (s := c.name) (cur := c.ver) (ys := xs.map (·.n)) (vs := vs) (k := vs.length))
    have ap : Hid ((V.upTo c.sch c.name c.ver (xs.map (·.n)) vs vs.length).1.length ≤ maxLen) := zu8 (V.zjj Z4.out)
    generalize V.upTo c.sch c.name c.ver (xs.map (·.n)) vs vs.length = st at *
    obtain ⟨sb, sf⟩ := st
    have z2 := zu9 ck j6
    have cm := zu8 (Z2.out.below j6)
    have HN8 := zu8 (G9.out.below j6)
    have Z5 := zu8 (ao.out.comps.below j6)
    have j7 := zu8 ((j6.block _ (Array.getElem?_eq_some_iff.1 Z3.out).1).trans Z3.out)
    have cn : Hid (w3.heap.size < w8.heap.size) := zu8 (Array.getElem?_eq_some_iff.1 j7.out).1
    have j8 : w8.cell? ⟨w3.heap.size, 33, none⟩ = some (.slice (some ⟨b, off, none⟩) l.length vc) := by rw [cell_of_row w8 w3.heap.size 33 _ _ _ j7.out, h4.out]; exact z1.out _
    clear j6 k1 k2 k3
    simp only
    have J1 : (w8.alloc (.cells (icells zq 0 (.slice none 0 0)) 29)).heap[w8.heap.size]? = some (.cells (icells zq 0 (.slice none 0 0)) 29 (0, 0)) := heap_alloc_new w8 _
    have g5 : Below w8.heap.size w8 ((w8.alloc (.cells (icells zq 0 (.slice none 0 0)) 29)).setRow w8.heap.size ic) :=
     ((zvb _ w8).alloc (zva _) _).trans (qj (zz _ _ _) (zva _) (by simp))
    obtain ⟨w9, z3⟩ : ∃ w9, w9 = (w8.alloc (.cells (icells zq 0 (.slice none 0 0)) 29)).setRow w8.heap.size ic := ⟨_, rfl⟩
    rw [← z3] at g5
    have co := zu8 z3
    have J2 := zu8 J1
    have HB9 := zu8 g5
    have J3 : Hid (w9.heap[w8.heap.size]? = some (.cells ic 29 (0, 0))) := zu8 (by rw [z3]; exact setRow_heap _ _ _ _ _ _ J1)
    have aq : w9.cell? ⟨w3.heap.size, 33, none⟩ = some (.slice (some ⟨b, off, none⟩) l.length vc) := zf g5 j8
    have ar := zu8 (Z5.out.below g5)
    have q9 : Hid (w8.heap.size < w9.heap.size) := zu8 (Array.getElem?_eq_some_iff.1 J3.out).1
    have v0 := zu7 J3.out 33
    rw [show ic[33]? = some (.slice (some ⟨b, off, none⟩) l.length vc) by rw [h4.out]; exact z1.out _] at v0
    have au := zu8 v0
    clear z3 J1 g5 v0
    go_upto_region 15 with (first
      | (refine zfl rfl (.agg ic) (zcx (ty := 29) rfl rfl (zcg j7.out Tryz.underlying29 rfl HIN.out)) ?_)
      | (rw [zb3]; refine wpList_store_row rfl _ _ _ rfl w8.heap.size ic rfl rfl 29 _ J2.out HIN.out HS.out HO.out ?_; rw [← co.out])
      | (refine zpz rfl _ _ rfl w9.heap.size (.slice none 0 0) [] rfl (CRow.nil _ _) (.slice (some ⟨b, off, none⟩) l.length vc) l rfl ar.out (by have := j4.out; simp; omega) (zva _) ?_
         intro v10 w10 j9 g8
         rw [List.nil_append] at j9
         have k0 : Below w9.heap.size w9 w10 := ⟨g8.os, g8.tape, g8.output, g8.size, fun i hi => g8.block i (by omega) (fun e => by cases e)⟩
         have J4 := zu8 j9
         have HB10 := zu8 k0
         have J5 := zu8 ((k0.block _ q9.out).trans J3.out)
         have J6 := zf k0 au.out
         have Z6 := qw (o := 33) J5.out
         have Z7 := j9.comps.one
         clear j9 g8 k0)
      | (refine zro rfl 27 _ _ rfl w8.heap.size 33 rfl v10 rfl _ J6 Z6 zru Z7 ?_)
      | fail)
    rcases J4.out.addr with ⟨_, e⟩ | ⟨g2, cap2, cur2, av, dl, j3⟩
    ·exact absurd G5.out (by rw [e]; simp)
    ·subst av
     have v1 : g2 ≠ w8.heap.size := by have := q9.out; omega
     have v2 : (w10.setCell ⟨w8.heap.size, 33, none⟩ (.slice (some ⟨g2, 0, none⟩) l.length cap2)).heap[w8.heap.size]? = some (.cells (icells (dig1 x) r (.slice (some ⟨g2, 0, none⟩) l.length cap2)) 29 (0, 0)) := by rw [kj 33 _ J5.out, h4.out, znm rfl]
     have J7 : (w10.setCell ⟨w8.heap.size, 33, none⟩ (.slice (some ⟨g2, 0, none⟩) l.length cap2)).heap[g2]? = some (.cells cur2 60 (0, 0)) := by rw [Below.heap_setCell _ _ _ _ v1]; exact j3
     have v3 : Comps (w10.setCell ⟨w8.heap.size, 33, none⟩ (.slice (some ⟨g2, 0, none⟩) l.length cap2)) (.slice (some ⟨g2, 0, none⟩) l.length cap2) l := J4.out.comps.grow (qv _ _ _ _) (fun a n c e => by cases e; exact v1)
     have v4 : Below w8.heap.size w8 (w10.setCell ⟨w8.heap.size, 33, none⟩ (.slice (some ⟨g2, 0, none⟩) l.length cap2)) := (HB9.out.trans (HB10.out.mono HB9.out.size)).grown (row := some w8.heap.size) (qv _ _ _ _) (by have := HB9.out.size; have := HB10.out.size; omega) (fun c e => by cases e; exact zva _)
     generalize w10.setCell ⟨w8.heap.size, 33, none⟩ (.slice (some ⟨g2, 0, none⟩) l.length cap2) = w11 at *
     have cq : w11.cell? ⟨w8.heap.size, 33, none⟩ = some (.slice (some ⟨g2, 0, none⟩) l.length cap2) := (zu7 v2 33).trans (z1.out _)
     obtain ⟨_, b2, o2, e2, _, J8⟩ := v3.at q G5.out
     cases e2
     have hcv := J8 3 _ rfl
     rw [Nat.zero_add] at hcv
     have Z8 := qw (o := q * 36 + 3) J7
     have v5 : Hid (Comps (w11.setCell ⟨g2, q * 36 + 3, none⟩ (.string ⟨sb.toArray⟩)) (.slice (some ⟨g2, 0, none⟩) l.length cap2) (l.set q { c with ver := sb })) := zu8 (v3.setAt G5.out (by decide) ⟨g0.out.par, g0.out.sch, g0.out.name, ap.out, g0.out.len, g0.out.dig⟩ (by rw [← cd.out]; rfl))
     have J9 : Hid ((w11.setCell ⟨g2, q * 36 + 3, none⟩ (.string ⟨sb.toArray⟩)).heap[w8.heap.size]? = some (.cells (icells (dig1 x) r (.slice (some ⟨g2, 0, none⟩) l.length cap2)) 29 (0, 0))) := zu8 (by rw [Below.heap_setCell _ _ _ _ (Ne.symm v1)]; exact v2)
     have q2 : Hid (Below w8.heap.size w8 (w11.setCell ⟨g2, q * 36 + 3, none⟩ (.string ⟨sb.toArray⟩))) := zu8 (v4.grown (row := some g2) (qv _ _ _ _) v4.size (fun c e => by cases e; have := q9.out; omega))
     clear v2 v3 v4 J8 J6 Z6 Z7 j3 aq j8
     go_upto_region 16 with (first
       | (refine zro rfl 9 _ _ rfl g2 (q * 36 + 3) rfl (.string ⟨sb.toArray⟩) rfl _ hcv Z8 zgo rfl ?_)
       | fail)
     clear cq hcv Z8 J7
     generalize w11.setCell ⟨g2, q * 36 + 3, none⟩ (.string ⟨sb.toArray⟩) = w12 at *
     have v6 := zu8 (z2.out.trans (q2.out.mono z2.out.size))
     have v7 := zu8 (cm.out.below q2.out)
     have aw := zu8 (HN8.out.below q2.out)
     have ax := zu8 (Z5.out.below q2.out)
     have Q0 := zu8 ((q2.out.block _ cn.out).trans j7.out)
     have k4 : Hid ((l.set q { c with ver := sb }).length = l.length) := zu8 (by rw [List.length_set])
     have dg := v5
     have ay : Hid (V.qt (dig1 x) r (l.set q { c with ver := sb }) = true -> V.qt (dig1 x) r l = true) := zu8 (fun h => V.zur h V4.out)
     have az : Hid (sf = true -> V.kt true (xs.map (·.n)) (l.set q { c with ver := sb }) = (V.kt true (xs.map (·.n)) l).filter fun h => !decide (h.comp = (q : Int))) := zu8 (fun h => V.zku (fun z hz => by
       have h1 := J0.out h
       rw [List.any_eq_false] at h1
       have h2 := h1 z hz
       unfold V.cov
       simpa using h2))
     generalize l.set q { c with ver := sb } = l2 at *
     generalize w8.heap.size = Y at *
     rcases sf with _ | _
     ·go_wp2_with fail
      refine (vy _ v7.out).mono ?_
      rintro e wz ⟨rfl, g3⟩
      have HE := zu8 (v6.out.trans (g3.mono (v6.out).size))
      clear g3
      go_wp2
      go_ret
      exact ⟨rfl, HE.out⟩
     ·go_wp2_with (first
        | (refine zfl rfl (.agg (icells (dig1 x) r (.slice (some ⟨g2, 0, none⟩) l.length cap2))) (zcx (ty := 29) rfl rfl (zcg J9.out Tryz.underlying29 rfl (by rw [xu, G2.out]))) ?_)
        | fail)
      refine (zn6 (dig1 x) r (.slice (some ⟨g2, 0, none⟩) l.length cap2) l2 w12 v7.out z0.out G1.out v5.out (by have := k4.out; have := j4.out; unfold maxLen; omega)).mono ?_
      rintro e w13 ⟨rfl, g4⟩
      have y0 := zu9 v6 g4
      have y1 := zu8 (v7.out.below g4)
      have Q1 := zu8 (aw.out.below g4)
      have ba := zu8 (ax.out.below g4)
      have bb := zu8 (v5.out.below g4)
      have bc := zu8 ((g4.block _ (Array.getElem?_eq_some_iff.1 Q0.out).1).trans Q0.out)
      have Q2 := zu8 ((g4.block _ (Array.getElem?_eq_some_iff.1 J9.out).1).trans J9.out)
      clear g4
      generalize Q3 : V.qt (dig1 x) r l2 = ok2 at *
      have bd := zu8 Q3
      clear Q3
      rcases ok2 with _ | _
      ·go_wp2_with fail
       refine (vy _ y1.out).mono ?_
       rintro e wz ⟨rfl, g3⟩
       have HE := zu8 (y0.out.trans (g3.mono (y0.out).size))
       clear g3
       go_wp2
       go_ret
       exact ⟨rfl, HE.out⟩
      ·have be := zu8 (ay.out (by simp))
       have U5 := zu8 (az.out (by simp))
       go_wp2_with (first
         | (refine zfl rfl (.agg ic) (zcx (ty := 29) rfl rfl (zcg bc.out Tryz.underlying29 rfl HIN.out)) ?_)
         | fail)
       have Q4 := zbr (dig1 x) r _ l (.slice na xs.length nc) xs _ y1.out z0.out G1.out ba.out (by have := j5.out.1; omega) Q1.out (by have := j5.out.2; omega)
       rw [← h4.out] at Q4
       refine Q4.mono ?_
       clear Q4
       rintro e w14 ⟨v14, us14, rfl, y2, k5, g9⟩
       rw [be.out] at k5
       have bf := zu8 k5
       have Q5 := zu8 y2.list
       have Q6 : Hid (us14.length ≤ 30) := zu8 (by
         rw [← List.length_map (f := (·.1)), k5]
         refine Nat.le_trans zgk ?_
         rw [List.length_map]
         exact Nat.mul_le_mul j4.out Y5.out)
       obtain ⟨ha, dm, bg⟩ := y2.row.slice
       subst bg
       have Q7 := zu9 y0 g9
       have bi := zu8 (y1.out.below g9)
       have bj := zu8 (Q1.out.below g9)
       have bk := zu8 (bb.out.below g9)
       have Q8 := zu8 ((g9.block _ (Array.getElem?_eq_some_iff.1 Q2.out).1).trans Q2.out)
       obtain ⟨g6, Q9⟩ : ∃ g6 : V.Hit × Sd -> Bool, g6 = fun p => !decide (p.1.comp = (q : Int)) := ⟨_, rfl⟩
       have U0 := zu8 Q9
       clear y2 k5 g9 Q9
       go_wp2_with fail
       go_loopw [15, 17] (fun ov kv wx => ∃ k : Nat, k ≤ us14.length /\ kv = .int .i64 k /\ HRow w14.heap.size wx ov ((us14.take k).filter g6) /\ Below w14.heap.size w14 wx) (fun _ kv _ => us14.length - (intOf kv).toNat)
       case atStart => exact ⟨0, Nat.zero_le _, rfl, HRow.nil _ _, zvb _ _⟩
       case round =>
        obtain ⟨k, hk, rfl, g7, hbk⟩ := hrel
        have h6 := zu8 g7
        have g1 := zu8 hbk
        obtain ⟨oa2, oc2, G8⟩ := g7.row.slice
        subst G8
        clear g7 hbk
        by_cases h8 : k < us14.length
        ·have z4 := zu8 h8
         replace h8 := h8
         have dn : k < 100 := by have := Q6.out; omega
         obtain ⟨g, og, cr, hg, hcell⟩ := GSl.at (Q5.out.1.below g1.out) k h8
         subst cr
         have q3 := zu8 (zdd (p := g6) h8)
         have cs : Hid (((us14.take k).filter g6).length ≤ 30) := zu8 (by
           have h1 := List.length_filter_le g6 (us14.take k)
           rw [List.length_take] at h1
           have := Q6.out
           omega)
         have Z9 := zu8 ((Q5.out.2 _ (List.getElem_mem h8)).below g1.out)
         have j1 : (0 : Int) ≤ (k : Int) := by omega
         have j2 : (k : Int) < (us14.length : Int) := by omega
         obtain ⟨p, hp⟩ : ∃ p, p = us14[k]'h8 := ⟨_, rfl⟩
         rw [← hp] at hcell q3 Z9
         have k6 : g6 p = !decide (p.1.comp = (q : Int)) := by rw [U0.out]
         clear hp hg
         have n0 := hcell 0 _ rfl
         rw [Nat.add_zero] at n0
         have U6 := zu8 hcell
         clear hcell
         generalize (us14.take k).filter g6 = ow2 at *
         by_cases hq : p.1.comp = (q : Int)
         ·rw [k6, decide_eq_true hq, if_neg (by simp), List.append_nil] at q3
          have hb : (p.1.comp == (q : Int)) = true := by rw [beq_iff_eq]; exact hq
          clear k6 hq
          go_wp2
          go_roundw
          case rel => exact ⟨k + 1, z4.out, by go_num, by rw [q3.out]; exact h6.out, g1.out⟩
          case measure => have := z4.out; simp [intOf]; omega
         ·rw [k6, decide_eq_false hq, if_pos (by simp)] at q3
          have hb : (p.1.comp == (q : Int)) = false := by rw [zvc]; exact hq
          have ct : Hid (wr.rangeAt g (og + k * 4) (hE p)) := zu8 (fun j u hu => U6.out j u hu)
          have hb7 : Below wr.heap.size wr (wr.alloc (.cells (hE p).toArray 63)) := (zvb _ wr).alloc (zva _) _
          have U1 := zu8 (h6.out.below hb7)
          have HB7 := zu9 g1 hb7
          have cu := zu8 (Z9.out.below hb7)
          have y3 := zu8 (GSl.one (enc := hE) (k := 4) (c := p) (b := wr.heap.size) (w := wr.alloc (.cells (hE p).toArray 63)) (by simp) (fun j u hu => by rw [World.cell?_alloc_new, List.getElem?_toArray]; exact hu))
          clear k6 hq hb7
          go_wp2_with (first
            | (refine zp3 yx ziz Tryz.underlying63 rfl rfl _ rfl g (og + k * 4) rfl p ct.out ?_)
            | (refine zex yx (by decide) (by decide) ziz Tryz.underlying35 rfl _ rfl p rfl ?_)
            | (refine yo yx (by decide) zig ziz (by decide) rfl _ _ 35 rfl Tryz.underlying35 w14.heap.size (.slice oa2 ow2.length oc2) ow2 rfl U1.out.row (.slice (some ⟨wr.heap.size, 0, none⟩) 1 1) [p] rfl y3.out (by have := cs.out; simp; omega) HB7.out.size ?_
               intro v8 w8 hr8 hg8 ho8)
            | fail)
          have J2 := zu8 (U1.out.append (fun q hq => by rw [List.mem_singleton.1 hq]; exact cu.out) hr8 hg8)
          have z2 : Hid (Below w14.heap.size w14 w8) := zu8 (HB7.out.grown hg8 HB7.out.size (fun b hb => GRow.block U1.out.row b hb))
          clear hr8 hg8 ho8
          go_wp2
          go_roundw
          case rel => exact ⟨k + 1, z4.out, by go_num, by rw [q3.out]; exact J2.out, z2.out⟩
          case measure => have := z4.out; simp [intOf]; omega
        ·obtain rfl : k = us14.length := by omega
         rw [List.take_length] at h6
         rw [List.take_length]
         have HBE := zu8 (Q7.out.trans (g1.out.mono Q7.out.size))
         have aa := zu8 (bi.out.below g1.out)
         have cv := zu8 ((g1.out.block _ (Array.getElem?_eq_some_iff.1 Q8.out).1).trans Q8.out)
         go_wp2_with (first
           | (refine zfl rfl (.agg (icells (dig1 x) r (.slice (some ⟨g2, 0, none⟩) l.length cap2))) (zcx (ty := 29) rfl rfl (zcg cv.out Tryz.underlying29 rfl (by rw [xu, G2.out]))) ?_)
           | fail)
         refine (zbr (dig1 x) r _ l2 (.slice na xs.length nc) xs _ aa.out z0.out G1.out (bk.out.below g1.out) (by have := k4.out; have := j4.out; omega) (bj.out.below g1.out) (by have := j5.out.2; omega)).mono ?_
         rintro e w15 ⟨v15, us15, rfl, U2, y4, k7⟩
         have HX2 : Hid (l2.length ≤ 12 /\ xs.length ≤ 8) := zu8 ⟨by rw [k4.out]; exact j5.out.1, j5.out.2⟩
         have y5 := y4
         rw [bd.out, U5.out] at y5
         have cw : Hid (us15.map (·.1) = (us14.filter g6).map (·.1)) := zu8 (by
           rw [y5, ← bf.out, List.filter_map, U0.out]
           rfl)
         have HBF := zu9 HBE k7
         have cx := zu8 (aa.out.below k7)
         have bl := zu8 U2.list
         have cy := zu8 (h6.out.list.below k7)
         have U3 := zu8 y4
         clear U2 y4 k7 y5
         go_wp2_with fail
         refine (zeo _ _ us15 (us14.filter g6) w15 bl.out cy.out cw.out (fun p hp => zmh HX2.out.2 U3.out p hp) (zeb HX2.out U3.out)).mono ?_
         rintro e w16 ⟨rfl, y6⟩
         have ab := zu9 HBF y6
         have cz := zu8 (cx.out.below y6)
         clear y6
         go_wp2_with fail
         refine (vy _ cz.out).mono ?_
         rintro e wz ⟨rfl, g3⟩
         have HE := zu8 (ab.out.trans (g3.mono (ab.out).size))
         clear g3
         go_wp2
         go_ret
         exact ⟨rfl, HE.out⟩
   ·have h0 : (0 : Int) < ((j + 1 : Nat) : Int) := by omega
    go_wp2_with fail
    refine (za4 w.heap.size _ c.sch wr ci.out (by omega) HSC.out).mono ?_
    rintro e w8 ⟨x8, ac, rfl, ad, hg8⟩
    have da := zu8 ac
    have U7 := zu8 (jz q7.out hg8 (fun g hv e => by cases e; have := GRow.block q7.out _ hv; have := q6.out; have := q5.out; have := HG7.out.size; omega))
    have j7 := zu8 (HG.out.trans hg8)
    have HT8 : Hid (Tape w8 w.heap.size (300 - j)) := zu8 (ad.le (by omega))
    have g5 : Below w8.heap.size w8 (w8.alloc (.cells #[.string ⟨x8.toArray⟩] 9)) := (zvb _ w8).alloc (zva _) _
    have h7 := zu8 (GRow.below U7.out g5)
    have HG9 := zu8 (j7.out.trans (zm g5 (some w.heap.size)))
    have HT9 := zu8 (HT8.out.below g5)
    have y3 := zu8 (GSl.one (enc := sE) (k := 1) (c := x8) (b := w8.heap.size) (w := w8.alloc (.cells #[.string ⟨x8.toArray⟩] 9)) (by simp) (fun j u hu => by rw [World.cell?_alloc_new]; show (sE x8).toArray[j]? = some u; rw [List.getElem?_toArray]; exact hu))
    have ae : w7.heap.size ≤ (w8.alloc (.cells #[.string ⟨x8.toArray⟩] 9)).heap.size := HG9.out.size
    have db := zu8 ae
    have af : Hid (w.heap.size < w7.heap.size) := zu8 (by have := q6.out; have := q5.out; have := HG7.out.size; omega)
    clear ac ad hg8 g5 ae
    go_wp2_with (first
      | (refine yo zrj (by decide) sE_one strGI (by decide) rfl _ _ 42 rfl Tryz.underlying42 w7.heap.size (.slice sa vs.length sc) vs rfl h7.out (.slice (some ⟨w8.heap.size, 0, none⟩) 1 1) [x8] rfl y3.out (by simp; omega) db.out ?_
         intro v9 w9 h9 y7 _)
      | fail)
    have HR9 := zu8 h9
    have dc := zu8 (ko HG9.out y7 (fun c hc => GRow.block h7.out c hc))
    have dd : Hid (Tape w9 w.heap.size (300 - j)) := zu8 (HT9.out.grown y7 (fun e => by have := GRow.block h7.out _ e; have := af.out; omega) (fun c e => by have := GRow.block h7.out c e; have := af.out; omega))
    have bm : Hid (∀ x ∈ vs ++ [x8], V.valid c.sch x = true) := zu8 (fun x hx => by
      rcases List.mem_append.1 hx with hx | hx
      · exact Z1.out x hx
      · rw [List.mem_singleton.1 hx]; exact da.out)
    obtain ⟨v9a, v9c, de⟩ := h9.slice
    subst de
    clear h9 y7
    have dp : ((j + 1 : Nat) : Int) - 1 = (j : Int) := by omega
    go_wp2
    go_roundw
    case rel => exact ⟨j, _, by rw [List.length_append]; simp; omega, by go_num, HR9.out, bm.out, dd.out, dc.out⟩
    case measure => simp [intOf]
end Go.Proofs.YtbikeahmldobkaaGreatDoor
