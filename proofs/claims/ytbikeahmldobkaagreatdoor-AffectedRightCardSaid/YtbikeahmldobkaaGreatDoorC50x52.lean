/-
  Lemmas for the law.
-/
import Derived.Test.YtbikeahmldobkaaGreatDoorC50x31
import Derived.Test.YtbikeahmldobkaaGreatDoorC50x43
import Derived.Test.YtbikeahmldobkaaGreatDoorC50x39
set_option linter.all false
set_option maxRecDepth 100000
set_option maxHeartbeats 6400000
namespace Go.Proofs.YtbikeahmldobkaaGreatDoor
open Go.RowKit
namespace V
def elig (n : Int) (s cur : Bs) (ys : List Note) (v : Bs) : Bool := decide (0 < cmpV n v cur) && !(ys.any fun x => covP x.adv n s v)
theorem ztu {n : Int} (hn : scheme n = true) {a b : Bs} (ha : valid n a = true) (hb : valid n b = true) : abv n a b = decide (0 < cmpV n a b) := by
 unfold abv
 rw [zbp hn ha hb]
 simp
structure UpSt (n : Int) (s cur : Bs) (ys : List Note) (vs : List Bs) (k : Nat) (st : Bs × Bool) : Prop where
 no : st.2 = false -> st.1 = []
 one : st.2 = true -> ∃ (i : Nat) (h : i < vs.length), vs[i] = st.1 /\ elig n s cur ys vs[i] = true
 low : ∀ i (h : i < vs.length), i < k -> elig n s cur ys vs[i] = true -> st.2 = true /\ 0 ≤ cmpV n vs[i] st.1
theorem zo5 {n : Int} {s cur : Bs} {ys : List Note} {vs : List Bs} (hn : scheme n = true) (hc : valid n cur = true) (hv : ∀ v ∈ vs, valid n v = true) : ∀ {k : Nat}, k ≤ vs.length -> UpSt n s cur ys vs k (upTo n s cur ys vs k)
 | 0, _ => ⟨fun _ => rfl, fun h => by simp [upTo] at h, fun i _ h => absurd h (by omega)⟩
 | k + 1, hk => by
  have ih := zo5 (s := s) (ys := ys) hn hc hv (k := k) (by omega)
  have hlt : k < vs.length := by omega
  have g0 := hv _ (List.getElem_mem hlt)
  rw [zel hlt]
  generalize upTo n s cur ys vs k = st at *
  unfold zc4
  rw [ztu hn g0 hc]
  by_cases h1 : 0 < cmpV n vs[k] cur
  ·rw [decide_eq_true h1]
   cases hcv : (ys.any fun x => covP x.adv n s vs[k]) with
   | true =>
    rw [if_pos rfl, ite_self]
    refine ⟨ih.no, ih.one, fun i h hi he => ?_⟩
    by_cases e : i = k
    ·subst e; unfold elig at he; rw [hcv] at he; simp at he
    ·exact ih.low i h (by omega) he
   | false =>
    have hel : elig n s cur ys vs[k] = true := by unfold elig; rw [hcv, decide_eq_true h1]; rfl
    have g1 : cmpV n vs[k] vs[k] = 0 := (zaz hn g0 g0 g0).2.1
    rw [if_neg (show ¬ (false = true) by simp)]
    cases hs : st.2 with
    | false =>
     rw [Bool.not_true, Bool.false_and, Bool.or_self, if_neg (by simp)]
     refine ⟨fun h => (by cases h), fun _ => ⟨k, hlt, rfl, hel⟩, fun i h hi he => ?_⟩
     by_cases e : i = k
     ·subst e; exact ⟨rfl, by rw [g1]; exact Int.le_refl _⟩
     ·have := (ih.low i h (by omega) he).1; rw [hs] at this; cases this
    | true =>
     obtain ⟨i0, h0, e0, el0⟩ := ih.one hs
     have g2 : valid n st.1 = true := by rw [← e0]; exact hv _ (List.getElem_mem h0)
     rw [ztu hn g2 g0]
     by_cases h2 : 0 < cmpV n st.1 vs[k]
     ·rw [decide_eq_true h2, Bool.not_true, Bool.and_false, Bool.or_self, if_neg (by simp)]
      refine ⟨fun h => (by cases h), fun _ => ⟨k, hlt, rfl, hel⟩, fun i h hi he => ⟨rfl, ?_⟩⟩
      by_cases e : i = k
      ·subst e; rw [g1]; exact Int.le_refl _
      ·have h3 := (ih.low i h (by omega) he).2
       have h4 := (zaz hn (hv _ (List.getElem_mem h)) g2 g0).2.2.2.1
       show 0 ≤ cmpV n vs[i] vs[k]
       omega
     ·rw [decide_eq_false h2, Bool.not_true, Bool.not_false, Bool.and_self, Bool.or_true, if_pos rfl]
      refine ⟨ih.no, ih.one, fun i h hi he => ?_⟩
      by_cases e : i = k
      ·subst e
       have := (zaz hn g0 g2 g0).1
       exact ⟨hs, by omega⟩
      ·exact ih.low i h (by omega) he
  ·rw [decide_eq_false h1, Bool.not_false, Bool.true_or, if_pos rfl]
   refine ⟨ih.no, ih.one, fun i h hi he => ?_⟩
   by_cases e : i = k
   ·subst e; unfold elig at he; rw [decide_eq_false h1] at he; cases he
   ·exact ih.low i h (by omega) he
end V
open Go.RowKit
theorem zxn {P : Prop} (h : P := by
 clear hel
 rcases th with _ | _
 ·go_wp2
  go_roundw
  case rel => exact ⟨i + 1, HLT.out, by go_num, by rw [HST.out, HEV.out]; rfl, HBE.out⟩
  case measure => have := HLT.out; simp [intOf]; omega
 ·go_wp2
  go_roundw
  case rel => exact ⟨i + 1, HLT.out, by go_num, by rw [HST.out]; rfl, HBE.out⟩
  case measure => have := HLT.out; simp [intOf]; omega) : P := h
theorem zzg {P : Prop} (h : P := by
 go_wp2
 go_roundw
 case rel => exact ⟨k + 1, HKL.out, by go_num, by rw [HSK.out]; rfl, HE.out⟩
 case measure => have := HKL.out; simp [intOf]; omega) : P := h
theorem zzi {P : Prop} (h : P := by
 go_wp2_with fail
 refine (ji _ HME.out).mono ?_
 rintro e w10 ⟨rfl, hb10⟩
 have HE := zwh HBE hb10
 clear hb10
 go_wp2
 go_ret
 exact ⟨rfl, HE.out⟩) : P := h
theorem zge (a : Option Addr) (m cap : Nat) (w : World) (hm : zj w) (ht : Nums w a m) (k7 : m ≤ cap) :
  Calls Tryz.prog 6 #[.slice a m cap] w fun e w' => e = .returned (.bool true) /\ Below w.heap.size w w' := by
 have HM := zwg hm
 have HT := zwg (And.intro ht k7)
 clear hm ht k7
 go_enter Tryz.func6, Tryz.ntmps6
 go_wp2_with fail
 refine (zcu a m cap 200 w HT.out.1 HT.out.2 (by decide)).mono ?_
 rintro e w1 ⟨rfl, ht1, hb1, k8⟩
 have HT1 := zwg ht1
 have HB1 := zwg hb1
 have h4 := zwg k8
 have k9 := zwg (HM.out.below hb1)
 clear ht1 hb1 k8
 go_wp2_with fail
 refine (zcf w.heap.size 0 5 w1 k9.out HT1.out (by decide) (by decide)).mono ?_
 rintro e w2 ⟨nv, us, rfl, q0, h6, q1, h7⟩
 have z3 := zwg h6
 have h8 := zwg q1
 have z4 := zwg h7
 have z5 := zwg (k9.out.tape HT1.out h7)
 obtain ⟨na, nc, z6⟩ := h6.row.slice
 subst z6
 have y6 := zwg q0
 clear q0 h6 q1 h7
 go_wp2_with fail
 refine (zdw w2).mono ?_
 rintro e w3 ⟨rfl, h9⟩
 have hb3 : Below w2.heap.size w2 w3 := by rw [h9]; exact (zwj _ w2).alloc (zwi _) _
 have q2 : ∀ j, j < 4 -> w3.cell? ⟨w2.heap.size, 0 + j, none⟩ = some (.string ⟨(ym.getD j []).toArray⟩) := fun j hj => by
  rw [h9, World.cell?_alloc_new, Nat.zero_add]
  exact zx8
 have HB3 := zwg hb3
 have z7 := zwg q2
 clear h9 hb3 q2
 go_wp2_with fail
 refine (ut w.heap.size _ w3 ⟨w2.heap.size, 0, none⟩ 4 ym (h8.out.below HB3.out) (by decide) (by decide) (by decide) (by have := h8.out.lt; simp; omega) rfl z7.out).mono ?_
 rintro e w4 ⟨nm, z8, rfl, q3, hg4⟩
 have y7 := zwg ((z3.out.call HB3.out).tape hg4 h4.out)
 have j0 := zwg q3
 have z9 := zwg ((z5.out.below HB3.out).tape (h8.out.below HB3.out) hg4)
 have HG4 := zwg ((z4.out.trans (zn HB3.out (some w.heap.size))).trans hg4)
 clear z8 q3 hg4
 have J5 : w.heap.size < w4.heap.size := j0.out.lt
 go_wp2_with fail
 refine (jf w.heap.size _ 3 w4 j0.out (by decide) (by decide) (by decide)).mono ?_
 rintro e w5 ⟨r, hr, rfl, q4, j1⟩
 have q5 := zwg q4
 have G0 := zwg (z9.out.tape j0.out j1)
 have HSC : Hid (V.scheme (1 + (r : Int)) = true) := zwg (by
   have h3 : r = 0 ∨ r = 1 ∨ r = 2 := by omega
   rcases h3 with rfl | rfl | rfl <;> decide)
 have G1 := zwg j1
 clear q4 j1
 go_wp2_with fail
 clear hr
 generalize (1 + (r : Int)) = sch at *
 refine (yb w.heap.size _ sch w5 q5.out (by decide) HSC.out).mono ?_
 rintro e w6 ⟨cv, hcv, rfl, q6, j2⟩
 have q7 := zwg q6
 have G2 := zwg (G0.out.tape q5.out j2)
 have G3 := zwg (G1.out.trans j2)
 have HCV := zwg hcv
 clear hcv q6 j2
 go_wp2_with fail
 refine (jf w.heap.size _ 8 w6 q7.out (by decide) (by decide) (by decide)).mono ?_
 rintro e w7 ⟨r7, J8, rfl, ht7, hg7⟩
 have j3 := zwg ht7
 have G4 := zwg (G2.out.tape q7.out hg7)
 have HG7 := zwg (G3.out.trans hg7)
 have y8 := zwg (y7.out.tape HG7.out h4.out)
 have J6 : w.heap.size < w7.heap.size := j3.out.lt
 clear ht7 hg7
 go_wp2_with fail
 go_loopw [8, 9] (fun sv iv wx => ∃ (q : Nat) (vs : List V.Bs), q + vs.length ≤ 7 /\ iv = .int .i64 q /\ GRow 9 1 sE wx w7.heap.size sv vs /\ (∀ x ∈ vs, V.valid sch x = true) /\ Tape wx w.heap.size (220 - q) /\ w7.grownBy wx (some w.heap.size)) (fun _ iv _ => (intOf iv).toNat)
 case atStart => exact ⟨r7, [], by simp; omega, rfl, GRow.nil _ _, fun x hx => by simp at hx, j3.out.le (by omega), vt _ _⟩
 case round =>
  obtain ⟨q, vs, hq, rfl, g7, q8, ht, hg⟩ := hrel
  have g8 := zwg g7
  have HVS := zwg q8
  have G5 := zwg ht
  have HG := zwg hg
  have q9 := zwg (G4.out.tape j3.out hg)
  obtain ⟨va, vc, G6⟩ := g7.slice
  subst G6
  clear g7 q8 ht hg
  rcases q with _ | j
  ·have y9 := zwg (y8.out.tape HG.out h4.out)
   have HB4 : Hid (Below w.heap.size w wr) := zwg (HB1.out.trans (qi ((HG4.out.trans HG7.out).trans HG.out) (zwi _) (Nat.le_of_lt h4.out)))
   have HN4 := zwg y9.out.notes
   have v0 : Hid ((us.map (·.nv)).length ≤ 5) := zwg (by rw [List.length_map]; exact y6.out)
   have v1 : Hid (us.length = (us.map (·.nv)).length) := zwg (by rw [List.length_map])
   have v2 := zwg (GRow.gsl uh g8.out).strs
   have j4 : Hid (∀ x ∈ vs, x.length ≤ maxLen) := zwg (fun x hx => by have := (V.valid_len (HVS.out x hx)).2; unfold maxLen; omega)
   have k5 : cv.length ≤ maxLen := by have := (V.valid_len HCV.out).2; unfold maxLen; omega
   have J9 : vs.length ≤ 7 := by omega
   rw [v1.out] at HN4
   rw [v1.out]
   generalize us.map (·.nv) = xs at *
   go_wp2_with fail
   refine (zbv _ xs sch nm cv (.slice va vs.length vc) vs wr q9.out HN4.out (by have := v0.out; omega) k5 v2.out (by omega) j4.out).mono ?_
   rintro e w8 ⟨rfl, hb8⟩
   have h5 := zwg (V.zo5 (s := nm) (ys := xs.map (·.n)) HSC.out HCV.out HVS.out (zwi vs.length))
   have J7 : Hid ((V.upTo sch nm cv (xs.map (·.n)) vs vs.length).1.length ≤ maxLen) := zwg (V.zkd j4.out)
   have v3 : Hid (∀ y, (xs.any fun x => V.covP x.n.adv sch nm y) = ((xs.map (·.n)).any fun x => V.covP x.adv sch nm y)) := zwg (fun y => by rw [List.any_map]; rfl)
   generalize V.upTo sch nm cv (xs.map (·.n)) vs vs.length = st at *
   obtain ⟨sb, sf⟩ := st
   have HB8 := zwh HB4 hb8
   have HM8 := zwg (q9.out.below hb8)
   have HN8 := zwg (HN4.out.below hb8)
   have G7 := zwg (v2.out.below hb8)
   obtain ⟨EL, v4⟩ : ∃ EL : V.Bs -> Bool, EL = fun y => V.elig sch nm cv (xs.map (·.n)) y && decide (y = sb) := ⟨_, rfl⟩
   have v5 := zwg v4
   clear hb8 v4
   simp only
   go_wp2_with fail
   go_loopw [12, 13] (fun tv iv wx => ∃ i : Nat, i ≤ vs.length /\ iv = .int .i64 i /\ tv = .bool ((vs.take i).any EL) /\ Below w8.heap.size w8 wx) (fun _ iv _ => vs.length - (intOf iv).toNat)
   case atStart => exact ⟨0, Nat.zero_le _, rfl, rfl, zwj _ _⟩
   case round =>
    obtain ⟨i, hi, rfl, rfl, v6⟩ := hrel
    have HBX := zwg v6
    clear v6
    by_cases hlt : i < vs.length
    ·have HLT := zwg hlt
     replace hlt := hlt
     have Q0 : i < 100 := by omega
     obtain ⟨gi, oi, hva, v7, j5⟩ := Strs.atS (G7.out.below HBX.out) i hlt
     subst hva
     have j6 := zwg (HVS.out _ (List.getElem_mem hlt))
     have v8 := zwg (j4.out _ (List.getElem_mem hlt))
     have g4 := zwg (h5.out.low i hlt hlt)
     have HST : Hid ((vs.take (i + 1)).any EL = ((vs.take i).any EL || EL vs[i])) := zwg (by rw [List.take_succ_eq_append_getElem hlt, List.any_append, List.any_cons, List.any_nil, Bool.or_false])
     have j7 := zwg j5
     have Q1 := zwg v7
     obtain ⟨vi, y0⟩ : ∃ vi, vi = vs[i]'hlt := ⟨_, rfl⟩
     rw [← y0] at j5 j6 v8 g4 HST j7
     clear y0 v7
     have i1 : (0 : Int) ≤ (i : Int) := by omega
     have i2 : (i : Int) < (vs.length : Int) := by omega
     go_wp2_with fail
     refine (zo2 sch vi cv _ _ (HM8.out.below HBX.out) HSC.out j6.out HCV.out rfl).mono ?_
     rintro e w9 ⟨rfl, g1⟩
     have HB9 := zwh HBX g1
     have z0 := zwg (zf g1 j7.out)
     have g9 : Hid (EL vi = (decide (0 < V.cmpV sch vi cv) && !((xs.any fun x => V.covP x.n.adv sch nm vi)) && decide (vi = sb))) := zwg (by rw [v5.out, v3.out]; rfl)
     have j8 : Hid (V.elig sch nm cv (xs.map (·.n)) vi = (decide (0 < V.cmpV sch vi cv) && !((xs.any fun x => V.covP x.n.adv sch nm vi)))) := zwg (by rw [v3.out]; rfl)
     clear g1 j5
     generalize V.cmpV sch vi cv = cc at *
     go_wp2_with fail
     go_loopw [15, 16] (fun cl kv wx => ∃ k : Nat, k ≤ xs.length /\ kv = .int .i64 k /\ cl = .bool (!((xs.take k).any fun x => V.covP x.n.adv sch nm vi)) /\ Below w9.heap.size w9 wx) (fun _ kv _ => xs.length - (intOf kv).toNat)
     case atStart => exact ⟨0, Nat.zero_le _, rfl, rfl, zwj _ _⟩
     case round =>
      obtain ⟨k, hk, rfl, rfl, hbk⟩ := hrel
      have HBK := zwg hbk
      have h2 := zwh HB9 hbk
      have y1 := zwg (HM8.out.below h2.out)
      have s0 := zf hbk z0.out
      clear hbk
      by_cases g3 : k < xs.length
      ·have HKL := zwg g3
       replace g3 := g3
       have Q2 : k < 100 := by have := v0.out; omega
       obtain ⟨hok, g, off, G8, hg, hr⟩ := (HN8.out.below h2.out).at k g3
       subst G8
       obtain ⟨n0, n1, n2, n3, _, _⟩ := xh hok.doc hr
       have g5 := zwg hok
       have k1 : (0 : Int) ≤ (k : Int) := by omega
       have k2 : (k : Int) < (xs.length : Int) := by omega
       have HSK : Hid (((xs.take (k + 1)).any fun x => V.covP x.n.adv sch nm vi) = (((xs.take k).any fun x => V.covP x.n.adv sch nm vi) || V.covP xs[k].n.adv sch nm vi)) := zwg (by rw [List.take_succ_eq_append_getElem g3, List.any_append, List.any_cons, List.any_nil, Bool.or_false])
       clear hok hr hg
       obtain ⟨x, hx⟩ : ∃ x, x = xs[k]'g3 := ⟨_, rfl⟩
       rw [← hx] at n0 n1 n2 n3 g5 HSK
       clear hx
       generalize y2 : ((xs.take k).any fun x => V.covP x.n.adv sch nm vi) = cp at *
       have Q3 := zwg y2
       clear y2
       rcases cp with _ | _
       ·go_wp2_with fail
        refine wp_region_held_drew (S := (fun W' => Below wr.heap.size wr W' /\ W'.cell? ⟨g, off + k * 37, none⟩ = some (.string ⟨x.n.adv.id.toArray⟩) /\ W'.cell? ⟨g, off + k * 37 + 1, none⟩ = some (.int .i64 x.n.adv.rev) /\ W'.cell? ⟨g, off + k * 37 + 2, none⟩ = some (.int .i64 x.n.adv.sev) /\ W'.cell? ⟨g, off + k * 37 + 3, none⟩ = some (x.u) /\ W'.cell? ⟨gi, oi + i, none⟩ = some (.string ⟨vi.toArray⟩))) (by kernel_rfl) (by (try dsimp only); exact ⟨(zwj _ _).drew, zf (zwj _ _).drew n0, zf (zwj _ _).drew n1, zf (zwj _ _).drew n2, zf (zwj _ _).drew n3, zf (zwj _ _).drew s0⟩) (fun hHeld => ?_)
        refine tk 0 ?_
        refine tk 1 ?_
        refine tk 2 ?_
        refine tk 3 ?_
        refine tk 4 ?_
        refine tk 5 ?_
        refine tk 6 ?_
        refine tk 7 ?_
        refine tk 8 ?_
        refine tk 9 ?_
        refine tk 10 ?_
        refine tk 11 ?_
        refine tk 12 ?_
        refine rd 13 fun K hK => ?_
        go_simp
        refine (zd2 x.n.adv x.u sch nm vi _ (y1.out.below (show Below wr.heap.size wr _ from (by first | assumption | exact And.left (by assumption)))) (g5.out.affs.below (show Below wr.heap.size wr _ from (by first | assumption | exact And.left (by assumption)))) g5.out.id g5.out.len v8.out).mono ?_
        rintro e wq13 ⟨rfl, g0⟩
        try dsimp only
        refine hK.out _ _ ?_ (fun hHeld => nx ?_)
        ·(try dsimp only); go_split_ands; exact ⟨Below.trans (by assumption) (g0.mono (Below.size (by assumption))), zwm g0, zwm g0, zwm g0, zwm g0, zwm g0⟩
        clear hK K
        refine tk 14 ?_
        refine tk 15 ?_
        refine tk 16 ?_
        refine wpAnyH_done (by kernel_rfl) ?_ _
        rw [V.zqo]
        have HE := zwg (HBK.out.trans (hHeld.1.mono HBK.out.size))
        clear hHeld n0 n1 n2 n3 s0 g0
        generalize wq13 = w10 at *
        exact zzg
       ·go_wp2_with fail
        refine wp_region_held_drew (S := (fun W' => Below wr.heap.size wr W')) (by kernel_rfl) (by (try dsimp only); exact (zwj _ _).drew) (fun hHeld => ?_)
        refine tk 0 ?_
        refine tk 1 ?_
        refine tu 2 ?_
        refine tu 3 ?_
        refine tu 4 ?_
        refine tu 5 ?_
        refine tu 6 ?_
        refine tu 7 ?_
        refine tu 8 ?_
        refine tu 9 ?_
        refine tu 10 ?_
        refine tu 11 ?_
        refine tu 12 ?_
        refine tu 13 ?_
        refine tu 14 ?_
        refine tk 15 ?_
        refine tk 16 ?_
        refine wpAnyH_done (by kernel_rfl) ?_ _
        have HE := zwh HBK hHeld
        clear hHeld n0 n1 n2 n3 s0
        exact zzg
      ·obtain rfl : k = xs.length := by omega
       rw [List.take_length]
       generalize j9 : (vs.take i).any EL = th at *
       generalize Q4 : (xs.any fun x => V.covP x.n.adv sch nm vi) = cl at *
       have HBE := h2
       by_cases hel : 0 < cc /\ cl = false
       ·obtain ⟨hc1, rfl⟩ := hel
        obtain ⟨g6, k0⟩ := g4.out (by rw [j8.out, decide_eq_true hc1]; rfl)
        try simp only at g6 k0
        subst g6
        have HEV : Hid (EL vi = decide (vi = sb)) := zwg (by rw [g9.out, decide_eq_true hc1]; rfl)
        obtain ⟨i0, h0, e0, el0⟩ := h5.out.one rfl
        have k3 : V.valid sch sb = true := by
         try simp only at e0
         rw [← e0]; exact HVS.out _ (List.getElem_mem h0)
        have Q5 : 0 < cc := hc1
        go_wp2_with fail
        refine (zo2 sch vi sb _ _ y1.out HSC.out j6.out k3 rfl).mono ?_
        rintro e w10 ⟨rfl, hb10⟩
        have s1 := zf hb10 s0
        have k4 := zwh HBE hb10
        have J4 : ¬ V.cmpV sch vi sb < 0 := by omega
        clear hb10 s0 g4 k0 e0 el0 k3
        generalize V.cmpV sch vi sb = c2 at *
        rcases th with _ | _
        ·go_wp2
         go_roundw
         case rel => exact ⟨i + 1, HLT.out, by go_num, by
             rw [HST.out, HEV.out]
             by_cases he : vi = sb
             · subst he; simp
             · simp [he], k4.out⟩
         case measure => have := HLT.out; simp [intOf]; omega
        ·go_wp2
         go_roundw
         case rel => exact ⟨i + 1, HLT.out, by go_num, by rw [HST.out]; rfl, k4.out⟩
         case measure => have := HLT.out; simp [intOf]; omega
       ·have HEV : Hid (EL vi = false) := zwg (by
          rw [g9.out]
          by_cases hc : 0 < cc
          · cases cl with
            | true => simp
            | false => exact absurd ⟨hc, rfl⟩ hel
          · rw [decide_eq_false hc]; rfl)
        clear g4 g9 j8
        by_cases hc : 0 < cc
        ·have z1 : cl = true := by
          cases cl with
          | true => rfl
          | false => exact absurd ⟨hc, rfl⟩ hel
         subst z1
         exact zxn
        ·exact zxn
    ·obtain rfl : i = vs.length := by omega
     rw [List.take_length]
     have HBE := zwg (HB8.out.trans (HBX.out.mono HB8.out.size))
     have HME := zwg (HM8.out.below HBX.out)
     generalize j9 : vs.any EL = th at *
     have G9 := zwg j9
     clear j9
     rcases th with _ | _
     ·have g6 : sf = false := by
       cases sf with
       | false => rfl
       | true =>
        obtain ⟨i0, h0, e0, el0⟩ := h5.out.one rfl
        have h1 := List.any_eq_false.1 G9.out _ (List.getElem_mem h0)
        try simp only at e0
        rw [v5.out] at h1
        simp only [el0, Bool.true_and, decide_eq_true_eq] at h1
        exact absurd e0 h1
      have J0 : sb = [] := h5.out.no g6
      subst g6 J0
      exact zzi
     ·exact zzi
  ·have h0 : (0 : Int) < ((j + 1 : Nat) : Int) := by omega
   go_wp2_with fail
   refine (yb w.heap.size _ sch wr G5.out (by omega) HSC.out).mono ?_
   rintro e w8 ⟨x8, y3, rfl, y4, hg8⟩
   have J1 := zwg y3
   have k6 := zwg (jz g8.out hg8 (fun g hv e => by cases e; have := GRow.block g8.out _ hv; omega))
   have J2 := zwg (HG.out.trans hg8)
   have HT8 : Hid (Tape w8 w.heap.size (220 - j)) := zwg (y4.le (by omega))
   have g1 : Below w8.heap.size w8 (w8.alloc (.cells #[.string ⟨x8.toArray⟩] 9)) := (zwj _ w8).alloc (zwi _) _
   have g2 := zwg (GRow.below k6.out g1)
   have HG9 := zwg (J2.out.trans (zn g1 (some w.heap.size)))
   have HT9 := zwg (HT8.out.below g1)
   have z2 := zwg (GSl.one (enc := sE) (k := 1) (c := x8) (b := w8.heap.size) (w := w8.alloc (.cells #[.string ⟨x8.toArray⟩] 9)) (by simp) (fun j u hu => by rw [World.cell?_alloc_new]; show (sE x8).toArray[j]? = some u; rw [List.getElem?_toArray]; exact hu))
   have y5 : w7.heap.size ≤ (w8.alloc (.cells #[.string ⟨x8.toArray⟩] 9)).heap.size := HG9.out.size
   have J3 := zwg y5
   clear y3 y4 hg8 g1 y5
   go_wp2_with (first
     | (refine xj uh (by decide) zd1 zfx (by decide) rfl _ _ 42 rfl Tryz.underlying42 w7.heap.size (.slice va vs.length vc) vs rfl g2.out (.slice (some ⟨w8.heap.size, 0, none⟩) 1 1) [x8] rfl z2.out (by simp; omega) J3.out ?_
        intro v9 w9 hr9 hgg9 _)
     | fail)
   have HR9 := zwg hr9
   have HGF := zwg (xk HG9.out hgg9 (fun c hc => GRow.block g2.out c hc))
   have HTF : Hid (Tape w9 w.heap.size (220 - j)) := zwg (HT9.out.grown hgg9 (fun e => by have := GRow.block g2.out _ e; omega) (fun c e => by have := GRow.block g2.out c e; omega))
   have HVS9 : Hid (∀ x ∈ vs ++ [x8], V.valid sch x = true) := zwg (fun x hx => by
     rcases List.mem_append.1 hx with hx | hx
     · exact HVS.out x hx
     · rw [List.mem_singleton.1 hx]; exact J1.out)
   exact zxx
end Go.Proofs.YtbikeahmldobkaaGreatDoor
