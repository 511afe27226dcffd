/-
  Lemmas for the law.
-/
import Derived.Test.YtbikeahmldobkaaGreatDoorC42x34
import Derived.Test.YtbikeahmldobkaaGreatDoorC42x36
set_option linter.all false
set_option maxRecDepth 100000
set_option maxHeartbeats 12800000
namespace Go.Proofs.YtbikeahmldobkaaGreatDoor
open Go.RowKit
namespace V
theorem zvt (xs : List Note) (x : Note) (c : Comp) (id : Bs) : selN (xs ++ [x]) c id = if x.adv.id = id /\ cov x c = true then selN xs c id ++ [x] else selN xs c id := by
 unfold selN
 rw [List.filter_append]
 by_cases h : x.adv.id = id /\ cov x c = true
 ·rw [if_pos h]; simp [h.1, h.2]
 ·rw [if_neg h]
  have : (decide (x.adv.id = id) && cov x c) = false := by
   rw [Bool.and_eq_false_iff, decide_eq_false_iff_not]
   by_cases e : x.adv.id = id
   ·exact .inr (by simpa using fun q => h ⟨e, q⟩)
   ·exact .inl e
  simp [this]
theorem zvo (l : List Note) (x : Note) : sevN (l ++ [x]) = max (sevN l) x.adv.sev := by unfold sevN; rw [List.foldl_append]; rfl
theorem zrb (l : List Note) (x : Note) : yz (l ++ [x]) = addC cmpI (yz l) x.doc := by unfold yz; rw [List.map_append]; exact ziq
theorem zmk (l : List Note) : (yz l).length ≤ l.length := by
 have := zas (c := cmpI) (l := []) (xs := l.map (·.doc))
 unfold yz
 simp at this
 exact this
def rhTo (ys : List Note) (i : Int) (c : Comp) (I : List Bs) (m : Nat) : List Hit := ((I.take m).map (hitN ys i c)).filter fun h => decide (0 < h.sev)
theorem zvi {ys : List Note} {i : Int} {c : Comp} {I : List Bs} {m : Nat} (h : m < I.length) : rhTo ys i c I (m + 1) = rhTo ys i c I m ++ if 0 < sevN (selN ys c I[m]) then [hitN ys i c I[m]] else [] := by
 unfold rhTo
 rw [List.take_succ_eq_append_getElem h, List.map_append, List.filter_append]
 congr 1
 rw [List.map_cons, List.map_nil, List.filter_cons]
 unfold hitN
 by_cases q : 0 < sevN (selN ys c I[m])
 ·rw [if_pos (decide_eq_true q), if_pos q]; rfl
 ·rw [if_neg (by simpa using q), if_neg q]; rfl
theorem rhTo_all (ys : List Note) (i : Int) (c : Comp) : rhTo ys i c (idsN ys) (idsN ys).length = zbm ys i c := by
 unfold rhTo
 rw [List.take_length]
 exact hits_of ys i c
theorem rhTo_len (ys : List Note) (i : Int) (c : Comp) (I : List Bs) (m : Nat) : (rhTo ys i c I m).length ≤ m := by
 unfold rhTo
 refine Nat.le_trans (List.length_filter_le _ _) ?_
 rw [List.length_map, List.length_take]
 omega
end V
theorem Strs.atS {w : World} {a : Option Addr} {n cap : Nat} {l : List V.Bs} (h : Strs w (.slice a n cap) l) (j : Nat) (hj : j < l.length) : ∃ g off, a = some ⟨g, off, none⟩ /\ g < w.heap.size /\ w.cell? ⟨g, off + j, none⟩ = some (.string ⟨l[j].toArray⟩) := by
 obtain ⟨a', c, e, hc⟩ := h
 cases e
 exact hc j hj
theorem zxy {P : Prop} (h : P := by
 go_wp2
 go_roundw
 case rel => exact ⟨q + 1, ⟨ua, un, uc⟩, by omega, by go_num, by rw [HS2.out]; exact HGE.out, by rw [HS2.out]; exact HDE.out, by rw [HS2.out]; exact HSLE.out, HE.out⟩
 case measure => simp [intOf]; omega) : P := h
theorem zlp (d : List Int) (time : Int) (v : Value) (l : List V.Comp) (nv : Value) (xs : List NV) (w : World) (hm : zk w) (hd : d.length = 32) (z7 : ∀ n ∈ d, (Lit.int .u8 n).wf = true) (hv : Comps w v l) (hl : l.length ≤ 100) (hn : Notes w nv xs) (hx : xs.length ≤ 900) :
  Calls Tryz.prog 18 #[.agg (icells d time v), nv] w (zpv (V.qn d time l) (xs.map (·.n)) l w) := by
 have HM := zv2 hm
 have HL := zv2 hv
 have HD := zv2 hd
 have U9 := zv2 z7
 have z8 := zv2 hn
 have HX := zv2 hx
 have z9 := zau hd time v
 have V0 := zv2 (qo hd time v)
 obtain ⟨va, vc, rfl, g2⟩ := hv
 obtain ⟨na, nc, rfl⟩ := hn.slice
 obtain ⟨W0, hW0⟩ : ∃ W0, W0 = w.alloc (.cells (icells d time (.slice va l.length vc)) 29) := ⟨_, rfl⟩
 have HB0 : Hid (Below w.heap.size w W0) := zv2 (by rw [hW0]; exact (zv5 w.heap.size w).alloc (zv4 _) _)
 have V1 : Hid (W0.heap[w.heap.size]? = some (.cells (icells d time (.slice va l.length vc)) 29 (0, 0))) := zv2 (by rw [hW0]; exact heap_alloc_new w _)
 have HZ0 : Hid (w.heap.size < W0.heap.size) := zv2 (by rw [hW0]; simp)
 have HW := zv2 hW0
 have G0 := zv2 z9
 clear hd z7 g2 hm hn hx hW0 z9
 go_enter Tryz.func18, Tryz.ntmps18
 go_wp2_with fail
 rw [← HW.out]
 refine (rids_any (.slice na xs.length nc) xs W0 (z8.out.below HB0.out) HX.out).mono ?_
 rintro e w1 ⟨iu, rfl, G1, hsl, hb1⟩
 have G2 := zv2 G1
 have HB1 := zv3 HB0 hb1
 have HG1 := zv2 ((hb1.block _ HZ0.out).trans V1.out)
 have k0 : Hid (w.heap.size < w1.heap.size) := zv2 (Nat.lt_of_lt_of_le HZ0.out hb1.size)
 obtain ⟨ia, ic, G3, g2⟩ := G1
 obtain ⟨I, hI⟩ : ∃ I, I = V.idsN (xs.map (·.n)) := ⟨_, rfl⟩
 have HI := zv2 hI
 have G4 : Hid (I.length ≤ 900) := zv2 (by
   have := V.zas (c := Lib.compareBytes) (l := []) (xs := (xs.map (·.n)).map (·.adv.id))
   have h9 := HX.out
   rw [hI]
   unfold V.idsN
   simp at this ⊢
   omega)
 rw [← hI] at G3 G2
 subst G3
 generalize G5 : xs.map (·.n) = ys at *
 have j0 := zv2 G5
 generalize hok : V.qn d time l = ok at *
 have HOK := zv2 hok
 clear hb1 hsl g2 hI G5 hok
 go_wp2_with fail
 go_loopw [5, 7] (fun ov iv wx => ∃ (k : Nat) (us : List (V.Hit × Sd)), k ≤ l.length /\ iv = .int .i64 k /\ HRow w1.heap.size wx ov us /\ us.map (·.1) = V.jr ys l k /\ Below w1.heap.size w1 wx /\ (k = 0 ∨ ok = true)) (fun _ iv _ => l.length - (intOf iv).toNat)
 case atStart => exact ⟨0, [], Nat.zero_le _, rfl, HRow.nil _ _, rfl, zv5 _ _, .inl rfl⟩
 case round =>
  obtain ⟨k, us, hk, rfl, g5, g3, g1, G6⟩ := hrel
  have q5 := zv2 g5
  have k4 := zv2 g3
  have HBX := zv2 g1
  have G7 := zv2 G6
  have HBW := zv3 HB1 g1
  have k5 := zv2 ((g1.block _ k0.out).trans HG1.out)
  have j4 : wr.cell? ⟨w.heap.size, 33, none⟩ = some (.slice va l.length vc) := by rw [cell_of_row wr w.heap.size 33 _ _ _ k5.out]; exact G0.out
  have HUL : Hid (us.length ≤ 90000) := zv2 (by
    have h1 := V.zc1 ys l k
    have h3 : ys.length = xs.length := by rw [← j0.out, List.length_map]
    rw [← g3, List.length_map, h3] at h1
    have h2 : k * xs.length ≤ 100 * 900 := Nat.mul_le_mul (by omega) HX.out
    omega)
  obtain ⟨oa, oc, q6⟩ := g5.row.slice
  subst q6
  clear g5 g3 g1 G6
  by_cases hlt : k < l.length
  ·go_wp2_with (first | (refine ztk rfl (.agg (icells d time (.slice va l.length vc))) (za1 (ty := 29) rfl rfl (zdj k5.out Tryz.underlying29 rfl (by rw [xt, V0.out]))) ?_) | fail)
   refine (zga d time (.slice va l.length vc) l _ (HM.out.below HBW.out) HD.out U9.out (HL.out.below HBW.out) (by unfold maxLen; omega)).mono ?_
   rintro e wv ⟨rfl, j3⟩
   rw [HOK.out]
   have HBV := zv3 HBX j3
   have Q8 := zv3 HBW j3
   have k6 := zv2 (q5.out.below j3)
   have Z2 := zv2 ((j3.block _ (Array.getElem?_eq_some_iff.1 k5.out).1).trans k5.out)
   clear j3 j4
   rcases ok with _ | _
   ·have G8 : k = 0 := by rcases G7.out with h | h; exact h; cases h
    have j5 : Hid (us.map (·.1) = V.xd (V.qn d time l) (xs.map (·.n)) l) := zv2 (by rw [k4.out, HOK.out, G8]; rfl)
    clear G8
    go_wp2
    go_ret
    exact ⟨_, us, rfl, k6.out.weaken (Nat.le_of_lt k0.out), j5.out, Q8.out⟩
   ·go_wp2_with fail
    obtain ⟨G9, b, off0, hva, q7, J0⟩ := HL.out.at k hlt
    subst hva
    have q8 := zv2 G9
    have V2 := zv2 J0
    have Z3 := zv2 q7
    have HST : Hid (V.jr ys l (k + 1) = V.jr ys l k ++ V.zbm ys k l[k]) := zv2 (V.zhk hlt)
    have j1 : (0 : Int) ≤ (k : Int) := by omega
    have j2 : (k : Int) < (l.length : Int) := by omega
    clear G9 J0 q7
    generalize l[k] = c at *
    go_loopw [5, 8] (fun ov iv wx => ∃ (m : Nat) (us : List (V.Hit × Sd)), m ≤ I.length /\ iv = .int .i64 m /\ HRow w1.heap.size wx ov us /\ us.map (·.1) = V.jr ys l k ++ V.rhTo ys k c I m /\ Below w1.heap.size w1 wx) (fun _ iv _ => I.length - (intOf iv).toNat)
    case atStart => exact ⟨0, us, Nat.zero_le _, rfl, k6.out, by rw [k4.out]; simp [V.rhTo], HBV.out⟩
    case round =>
     obtain ⟨m, us2, Z4, rfl, g5, g3, g1⟩ := hrel
     have k7 := zv2 g5
     have j6 := zv2 g3
     have g8 := zv2 g1
     have h6 := zv3 HB1 g1
     have q9 := zv2 ((g1.block _ k0.out).trans HG1.out)
     have Q9 : Hid (us2.length ≤ 100000) := zv2 (by
       have h1 := V.rhTo_len ys k c I m
       have h2 := HUL.out
       have h3 := G4.out
       have h4 : us.length = (V.jr ys l k).length := by rw [← k4.out, List.length_map]
       rw [← List.length_map (f := (·.1)), g3, List.length_append]
       omega)
     obtain ⟨oa2, oc2, q6⟩ := g5.row.slice
     subst q6
     clear g5 g3 g1
     by_cases hml : m < I.length
     ·obtain ⟨gi, oi, V3, Z5, v0⟩ := G2.out.atS m hml
      subst V3
      have V4 := zv2 v0
      have U0 := zg g8.out v0
      have Z6 : m < 1000 := by have := G4.out; omega
      have m1 : (0 : Int) ≤ (m : Int) := by omega
      have m2 : (m : Int) < (I.length : Int) := by omega
      have v1 : Hid (V.rhTo ys k c I (m + 1) = V.rhTo ys k c I m ++ if 0 < V.sevN (V.selN ys c I[m]) then [V.hitN ys k c I[m]] else []) := zv2 (V.zvi hml)
      clear v0
      generalize I[m] = id at *
      obtain ⟨Y, hY⟩ : ∃ Y, Y = wr.heap.size := ⟨_, rfl⟩
      have J1 := zv2 hY
      have J2 : (wr.alloc (.cells #[.int .i64 k, .string ⟨id.toArray⟩, .int .i64 0, .slice none 0 0] 63)).heap.size = wr.heap.size + 1 := by simp
      have J3 : Hid ((wr.alloc (.cells #[.int .i64 k, .string ⟨id.toArray⟩, .int .i64 0, .slice none 0 0] 63)).heap[Y]? = some (.cells #[.int .i64 k, .string ⟨id.toArray⟩, .int .i64 0, .slice none 0 0] 63 (0, 0))) := zv2 (by rw [hY]; exact heap_alloc_new wr _)
      have HBY : Hid (Below wr.heap.size wr (wr.alloc (.cells #[.int .i64 k, .string ⟨id.toArray⟩, .int .i64 0, .slice none 0 0] 63))) := zv2 ((zv5 _ wr).alloc (zv4 _) _)
      have V5 := zv2 J2
      clear J2 hY
      go_wp2_with fail
      clear U0
      generalize wr.alloc (.cells #[.int .i64 k, .string ⟨id.toArray⟩, .int .i64 0, .slice none 0 0] 63) = wy at *
      rw [← J1.out]
      generalize wr = wp at *
      have v2 : Hid (wp.heap.size ≤ Y) := zv2 (by rw [J1.out]; exact zv4 _)
      have v3 := h6
      clear h6
      go_loopw [10] (fun iv wx => ∃ (q : Nat) (u : Sd), q ≤ xs.length /\ iv = .int .i64 q /\ wx.heap[Y]? = some (.cells #[.int .i64 k, .string ⟨id.toArray⟩, .int .i64 (V.sevN (V.selN (ys.take q) c id)), u.v] 63 (0, 0)) /\ Digs wx u.v (V.yz (V.selN (ys.take q) c id)) /\ SlOk wx u.v (V.yz (V.selN (ys.take q) c id)).length /\ Below wp.heap.size wp wx) (fun iv _ => xs.length - (intOf iv).toNat)
      case atStart => exact ⟨0, ⟨none, 0, 0⟩, Nat.zero_le _, rfl, J3.out, Digs.nil _, SlOk.nil _, HBY.out⟩
      case round =>
       clear J3 HBY V5
       obtain ⟨q, ⟨ua, un, uc⟩, hq, rfl, J4, v4, J5, g1⟩ := hrel
       have g4 := zv2 J4
       have h7 := zv2 v4
       have j7 := zv2 J5
       have g6 := zv2 g1
       have v5 := zv3 v3 g1
       obtain ⟨J6, g2⟩ : un = (V.yz (V.selN (ys.take q) c id)).length /\ True := by
        obtain ⟨a, cp, e, _⟩ := v4
        exact ⟨(Value.slice.inj e).2.1, trivial⟩
       have J7 := zv2 J6
       unfold Sd.v at g4 h7 j7
       clear J4 v4 J5 g1 J6 g2
       by_cases hql : q < xs.length
       ·obtain ⟨j8, g, off, V6, hg, hr⟩ := (z8.out.below v3.out).at q hql
        subst V6
        have v6 := zv2 j8
        have v7 := zv2 hr
        have v9 := zv2 (j8.below g6.out)
        have U1 := zv2 (zi hr g6.out)
        have V7 : Hid (ys.take (q + 1) = ys.take q ++ [xs[q].n]) := zv2 (by
          have V8 : q < ys.length := by rw [← j0.out, List.length_map]; exact hql
          rw [List.take_succ_eq_append_getElem V8]
          congr 1
          have : ys[q] = xs[q].n := by
            have h9 := j0.out
            subst h9
            simp
          rw [this])
        have V9 : Hid ((V.yz (V.selN (ys.take q) c id)).length ≤ 1000) := zv2 (by
          have h1 := V.zmk (V.selN (ys.take q) c id)
          have h2 : (V.selN (ys.take q) c id).length ≤ (ys.take q).length := List.length_filter_le _ _
          have h3 : (ys.take q).length ≤ q := by simp; omega
          have h4 := HX.out
          omega)
        have hqb : q < 1000 := by have := HX.out; omega
        have q1 : (0 : Int) ≤ (q : Int) := by omega
        have q2 : (q : Int) < (xs.length : Int) := by omega
        clear j8 hr
        generalize xs[q] = x at *
        have h8 := zv2 (V.zvt (ys.take q) x.n c id)
        rw [← V7.out] at h8
        generalize J8 : V.selN (ys.take (q + 1)) c id = sel2 at *
        have HS2 := zv2 J8
        clear J8
        generalize V.selN (ys.take q) c id = sel at *
        generalize J9 : V.sevN sel = sv at *
        generalize Q0 : V.yz sel = docs at *
        have y0 := zv2 J9
        have y1 := zv2 Q0
        have Z0 := J7
        have j4 : wr.cell? ⟨w.heap.size, 33, none⟩ = some (.slice (some ⟨b, off0, none⟩) l.length vc) := by
         rw [cell_of_row wr w.heap.size 33 _ _ _ ((g6.out.block _ (Array.getElem?_eq_some_iff.1 q9.out).1).trans q9.out)]; exact G0.out
        have hb2 : Below wr.heap.size wr (wr.alloc (.cells (ccells c) 60)) := (zv5 _ wr).alloc (zv4 _) _
        have Y0 := zv2 (zi V2.out v5.out)
        have HB2 := zv3 g6 hb2
        have h6 := zv3 v5 hb2
        have Y1 : Hid (Y < wr.heap.size) := zv2 (Array.getElem?_eq_some_iff.1 g4.out).1
        have k8 := zv2 ((hb2.block Y Y1.out).trans g4.out)
        have y4 := zv2 (h7.out.below hb2)
        have y5 := zv2 (j7.out.below hb2.size)
        have g9 := zv2 (v9.out.below hb2)
        have Y2 := zv2 (HM.out.below h6.out)
        have y6 := zv2 (zi U1.out hb2)
        have k9 := vl c wr 60
        have k1 : (wr.alloc (.cells (ccells c) 60)).cell? ⟨wr.heap.size, 1, none⟩ = some (.int .i64 c.sch) := k9 1 _ rfl
        have k2 : (wr.alloc (.cells (ccells c) 60)).cell? ⟨wr.heap.size, 2, none⟩ = some (.string ⟨c.name.toArray⟩) := k9 2 _ rfl
        have k3 : (wr.alloc (.cells (ccells c) 60)).cell? ⟨wr.heap.size, 3, none⟩ = some (.string ⟨c.ver.toArray⟩) := k9 3 _ rfl
        obtain ⟨n0, n1, n2, n3, nr, _⟩ := ku v9.out.doc y6.out
        have NR := zv2 nr
        have s0 : (wr.alloc (.cells (ccells c) 60)).cell? ⟨gi, oi + m, none⟩ = some (.string ⟨id.toArray⟩) := zg HB2.out (zg g8.out V4.out)
        clear hb2 k9 nr J9 Q0 hg
        go_wp2_with (first
          | (refine vt rfl _ rfl b (off0 + k * 36) rfl c q8.out Y0.out ?_)
          | (refine zb2 rfl _ _ rfl _ _ rfl c q8.out rfl rfl ?_
             generalize wr.alloc (.cells (ccells c) 60) = w2 at *
             generalize wr.heap.size = X at *)
          | fail)
        clear j4
        by_cases hidq : x.n.adv.id = id
        ·have hb : (x.n.adv.id == id) = true := by rw [beq_iff_eq]; exact hidq
         have U2 := zv2 hidq
         clear hidq
         refine wp_region_held_drew (S := (fun W' => Below w2.heap.size w2 W' /\ W'.cell? ⟨g, off + q * 37, none⟩ = some (.string ⟨x.n.adv.id.toArray⟩) /\ W'.cell? ⟨g, off + q * 37 + 1, none⟩ = some (.int .i64 x.n.adv.rev) /\ W'.cell? ⟨g, off + q * 37 + 2, none⟩ = some (.int .i64 x.n.adv.sev) /\ W'.cell? ⟨g, off + q * 37 + 3, none⟩ = some (x.u) /\ W'.cell? ⟨gi, oi + m, none⟩ = some (.string ⟨id.toArray⟩) /\ W'.cell? ⟨X, 1, none⟩ = some (.int .i64 c.sch) /\ W'.cell? ⟨X, 2, none⟩ = some (.string ⟨c.name.toArray⟩) /\ W'.cell? ⟨X, 3, none⟩ = some (.string ⟨c.ver.toArray⟩))) (by kernel_rfl) (by (try dsimp only); exact ⟨(zv5 _ _).drew, zg (zv5 _ _).drew n0, zg (zv5 _ _).drew n1, zg (zv5 _ _).drew n2, zg (zv5 _ _).drew n3, zg (zv5 _ _).drew s0, zg (zv5 _ _).drew k1, zg (zv5 _ _).drew k2, zg (zv5 _ _).drew k3⟩) (fun hHeld => ?_)
         refine tk 0 ?_
         refine tk 1 ?_
         refine tk 2 ?_
         refine tk 3 ?_
         refine tk 4 ?_
         refine tk 5 ?_
         refine tk 6 ?_
         refine tk 7 ?_
         refine tk 8 ?_
         refine tk 9 ?_
         refine tk 10 ?_
         refine tk 11 ?_
         refine tk 12 ?_
         refine tk 13 ?_
         refine tk 14 ?_
         refine tk 15 ?_
         refine tk 16 ?_
         refine tk 17 ?_
         refine tk 18 ?_
         refine tk 19 ?_
         refine tk 20 ?_
         refine tk 21 ?_
         refine tk 22 ?_
         refine rd 23 fun K hK => ?_
         go_simp
         refine (zjd x.n.adv x.u c.sch c.name c.ver _ (Y2.out.below (show Below w2.heap.size w2 _ from (by first | assumption | exact And.left (by assumption)))) (g9.out.affs.below (show Below w2.heap.size w2 _ from (by first | assumption | exact And.left (by assumption)))) g9.out.id g9.out.len q8.out.ver).mono ?_
         rintro e wq23 ⟨rfl, g0⟩
         try dsimp only
         refine hK.out _ _ ?_ (fun hHeld => nx ?_)
         ·(try dsimp only); go_split_ands; exact ⟨Below.trans (by assumption) (g0.mono (Below.size (by assumption))), zv8 g0, zv8 g0, zv8 g0, zv8 g0, zv8 g0, zv8 g0, zv8 g0, zv8 g0⟩
         clear hK K
         refine tk 24 ?_
         refine wpAnyH_done (by kernel_rfl) ?_ _
         rw [V.cov_rcov]
         have HE := zv2 (HB2.out.trans (hHeld.1.mono HB2.out.size))
         have HB3 := zv2 hHeld.1
         have Q1 := zv2 ((hHeld.1.block Y (Array.getElem?_eq_some_iff.1 k8.out).1).trans k8.out)
         have y7 := zv2 (y4.out.below hHeld.1)
         have y8 := zv2 (y5.out.below hHeld.1.size)
         have HCV : Hid (V.cov x.n c = V.covP x.n.adv c.sch c.name c.ver) := zv2 rfl
         clear hHeld n0 n1 n2 n3 s0 k1 k2 k3 hb g0
         generalize wq23 = w3 at *
         rcases hcv : V.covP x.n.adv c.sch c.name c.ver with _ | _
         ·have g7 : Hid (sel2 = sel) := zv2 (by rw [h8.out, if_neg (fun h => by have := h.2; rw [HCV.out, hcv] at this; cases this)])
          have HGE := Q1
          have HDE := y7
          have HSLE := y8
          rw [← y0.out, ← g7.out] at HGE
          rw [← y1.out, ← g7.out] at HDE HSLE
          clear hcv
          exact zxy
         ·have g7 : Hid (sel2 = sel ++ [x.n]) := zv2 (by rw [h8.out, if_pos ⟨U2.out, by rw [HCV.out, hcv]⟩])
          clear hcv
          have y9 := Q1
          have z0 := HE
          have Z1 := zv2 (zi y6.out HB3.out)
          have HN2 : Hid (wp.cell? ⟨g, off + q * 37 + 2, none⟩ = some (.int .i64 x.n.adv.sev)) := zv2 (ku v6.out.doc v7.out).2.2.1
          have y2 : w3.cell? ⟨Y, 2, none⟩ = some (.int .i64 sv) := by rw [cell_of_row _ _ _ _ _ _ y9.out]; rfl
          have y2d : w3.drew.cell? ⟨Y, 2, none⟩ = some (.int .i64 sv) := y2
          go_wp2_with fail
          refine wp_region_held_drew (S := (fun W' => Below wp.heap.size wp W')) (by kernel_rfl) (z0.out.drew) (fun hHeld => ?_)
          refine tk 0 ?_
          refine tk 2 ?_
          refine tk 3 ?_
          refine tk 4 ?_
          refine tk 5 ?_
          refine tk 6 ?_
          refine tv 7 (.int .i64 x.n.adv.sev) ?_ ?_
          ·exact fun w' hSw => za1 rfl rfl (by have hq := zg hSw HN2.out; go_simp)
          refine rd 1 fun K hK => ?_
          refine zpj rfl (.int .i64 sv) (za1 rfl rfl (by go_simp)) ?_
          refine hK.out _ _ ?_ (fun hHeld => nx ?_)
          ·(try dsimp only); exact hHeld
          clear hK K
          refine tk 8 ?_
          refine tk 9 ?_
          refine rd 10 fun K hK => ?_
          refine zd9 rfl 3 _ _ rfl Y 2 _ _ y9.out (by show 2 < 4; omega) rfl (.int .i64 (max sv x.n.adv.sev)) rfl zrj rfl (fun w4 h0 => ?_)
          refine hK.out _ _ ?_ (fun hHeld => nx ?_)
          ·(try dsimp only); exact h0.below hHeld v2.out
          clear hK K
          refine wpAnyH_done (by kernel_rfl) ?_ _
          simp only [zv0, List.set_cons_succ, List.set_cons_zero] at h0
          have z1 := zv2 h0.here
          have U3 := zv2 (h0.below z0.out.drew v2.out)
          have U4 : Hid (Digs w4 (.slice ua un uc) docs) := zv2 ((y7.out.below (zv5 _ w3).drew).grow h0.grown (fun b e => by cases e; exact ⟨_, _, _, y9.out, by decide⟩))
          have U5 : Hid (SlOk w4 (.slice ua un uc) docs.length) := zv2 (y8.out.below h0.grown.size)
          have Y3 : Hid (wp.rangeAt g (off + q * 37 + 4) (zn x.n.doc)) := zv2 (ku v6.out.doc v7.out).2.2.2.2.1
          have y3 : w4.cell? ⟨Y, 3, none⟩ = some (.slice ua un uc) := by rw [cell_of_row _ _ _ _ _ _ z1.out]; rfl
          have y3d : w4.drew.cell? ⟨Y, 3, none⟩ = some (.slice ua un uc) := y3
          clear h0 hHeld y2 y2d
          go_wp2_with fail
          refine wp_region_held_drew (S := (fun W' => Below wp.heap.size wp W')) (by kernel_rfl) (U3.out.drew) (fun hHeld => ?_)
          refine tk 0 ?_
          refine tk 2 ?_
          refine tk 3 ?_
          refine tk 4 ?_
          refine tk 5 ?_
          refine tv 6 (.agg (dcells x.n.doc)) ?_ ?_
          ·exact fun w' hSw => wi rfl rfl g9.out.doc (zi Y3.out hSw)
          refine rd 1 fun K hK => ?_
          refine zpj rfl (.slice ua un uc) (za1 rfl rfl (by go_simp)) ?_
          refine hK.out _ _ ?_ (fun hHeld => nx ?_)
          ·(try dsimp only); exact hHeld
          clear hK K
          refine rd 7 fun K hK => ?_
          go_simp
          refine (zu5 (.slice ua un uc) docs x.n.doc _ (U4.out.below (zv5 _ _).drew) (U5.out.below (zv4 _)) g9.out.doc V9.out).mono ?_
          rintro e w6 ⟨u6, rfl, z2, Q2, z3⟩
          try dsimp only
          have Q3 := zv2 ((z3.block Y (Array.getElem?_eq_some_iff.1 z1.out).1).trans z1.out)
          have Q4 := z2.one
          refine hK.out _ _ ?_ (fun hHeld => nx ?_)
          ·(try dsimp only); exact hHeld.trans (z3.mono hHeld.size)
          clear hK K
          refine tk 8 ?_
          refine rd 9 fun K hK => ?_
          refine zd9 rfl 55 _ _ rfl Y 3 _ _ Q3.out (by show 3 < 4; omega) rfl u6 rfl znt Q4 (fun w7 h5 => ?_)
          refine hK.out _ _ ?_ (fun hHeld => nx ?_)
          ·(try dsimp only); exact h5.below hHeld v2.out
          clear hK K
          refine wpAnyH_done (by kernel_rfl) ?_ _
          simp only [zv0, List.set_cons_succ, List.set_cons_zero] at h5
          have Q5 := zv2 h5.here
          have U6 := zv2 hHeld
          have z4 := zv2 (z2.grow h5.grown (fun b e => by cases e; exact ⟨_, _, _, Q3.out, by decide⟩))
          have z5 := zv2 (Q2.below h5.grown.size)
          obtain ⟨a6, c6, Q6, g2⟩ := z2
          have U7 : Hid (V.sevN sel2 = max sv x.n.adv.sev) := zv2 (by rw [g7.out, V.zvo, y0.out])
          have U8 : Hid (V.yz sel2 = V.addC V.cmpI docs x.n.doc) := zv2 (by rw [g7.out, V.zrb, y1.out])
          rw [← U8.out] at z4 z5 Q6
          rw [← U7.out] at Q5
          subst Q6
          clear h5 hHeld Q2 z3 Q4 g2 y3 y3d
          go_wp2
          go_roundw
          case rel => exact ⟨q + 1, ⟨a6, _, c6⟩, by omega, by go_num, by rw [HS2.out]; exact Q5.out, by rw [HS2.out]; exact z4.out, by rw [HS2.out]; exact z5.out, U6.out⟩
          case measure => simp [intOf]; omega
        ·have hb : (x.n.adv.id == id) = false := by rw [zv6]; exact hidq
         have g7 : Hid (sel2 = sel) := zv2 (by rw [h8.out, if_neg (fun h => hidq h.1)])
         clear hidq n1 n2 n3 k1 k2 k3
         refine wp_region_held_drew (S := (fun W' => Below w2.heap.size w2 W' /\ W'.cell? ⟨g, off + q * 37, none⟩ = some (.string ⟨x.n.adv.id.toArray⟩) /\ W'.cell? ⟨gi, oi + m, none⟩ = some (.string ⟨id.toArray⟩))) (by kernel_rfl) (by (try dsimp only); exact ⟨(zv5 _ _).drew, zg (zv5 _ _).drew n0, zg (zv5 _ _).drew s0⟩) (fun hHeld => ?_)
         refine tk 0 ?_
         refine tk 1 ?_
         refine tk 2 ?_
         refine tk 3 ?_
         refine tk 4 ?_
         refine tk 5 ?_
         refine tk 6 ?_
         refine tk 7 ?_
         refine tk 8 ?_
         refine tk 9 ?_
         refine tk 10 ?_
         refine tk 11 ?_
         refine tu 12 ?_
         refine tu 13 ?_
         refine tu 14 ?_
         refine tu 15 ?_
         refine tu 16 ?_
         refine tu 17 ?_
         refine tu 18 ?_
         refine tu 19 ?_
         refine tu 20 ?_
         refine tu 21 ?_
         refine tu 22 ?_
         refine tu 23 ?_
         refine tk 24 ?_
         refine wpAnyH_done (by kernel_rfl) ?_ _
         have HE := zv2 (HB2.out.trans (hHeld.1.mono HB2.out.size))
         have HGE := zv2 ((hHeld.1.block Y (Array.getElem?_eq_some_iff.1 k8.out).1).trans k8.out)
         have HDE := zv2 (y4.out.below hHeld.1)
         have HSLE := zv2 (y5.out.below hHeld.1.size)
         rw [← y0.out, ← g7.out] at HGE
         rw [← y1.out, ← g7.out] at HDE HSLE
         clear hHeld n0 s0 hb
         exact zxy
       ·obtain rfl : q = xs.length := by omega
        have HTK : Hid (ys.take xs.length = ys) := zv2 (List.take_of_length_le (by rw [← j0.out, List.length_map]; exact zv4 _))
        rw [HTK.out] at g4 h7 j7 J7
        have Y4 : Hid (V.hitN ys k c id = ⟨k, id, V.sevN (V.selN ys c id), V.yz (V.selN ys c id)⟩) := zv2 rfl
        generalize V.selN ys c id = sel at *
        generalize V.sevN sel = sv at *
        generalize V.yz sel = docs at *
        have q4 := zv2 (k7.out.below g6.out)
        have Q7 := zv2 (g8.out.trans (g6.out.mono g8.out.size))
        have y2 : wr.cell? ⟨Y, 2, none⟩ = some (.int .i64 sv) := by rw [cell_of_row _ _ _ _ _ _ g4.out]; rfl
        by_cases hpos : 0 < sv
        ·have hb7 : Below wr.heap.size wr (wr.alloc (.cells #[.int .i64 k, .string ⟨id.toArray⟩, .int .i64 sv, .slice ua un uc] 63)) := (zv5 _ wr).alloc (zv4 _) _
         have z6 := zv2 (q4.out.below hb7)
         have Y5 := zv2 (h7.out.below hb7)
         have HB7 := zv3 Q7 hb7
         have HNW := zv2 (znw wr ⟨k, id, sv, docs⟩ ⟨ua, un, uc⟩)
         have q0 : wr.cell? ⟨Y, 0, none⟩ = some (.int .i64 k) := by rw [cell_of_row _ _ _ _ _ _ g4.out]; rfl
         have q1 : wr.cell? ⟨Y, 1, none⟩ = some (.string ⟨id.toArray⟩) := by rw [cell_of_row _ _ _ _ _ _ g4.out]; rfl
         have q3 : wr.cell? ⟨Y, 3, none⟩ = some (.slice ua un uc) := by rw [cell_of_row _ _ _ _ _ _ g4.out]; rfl
         have j9 : Hid ((us2 ++ [((⟨k, id, sv, docs⟩ : V.Hit), (⟨ua, un, uc⟩ : Sd))]).map (·.1) = V.jr ys l k ++ V.rhTo ys k c I (m + 1)) := zv2 (by
           rw [v1.out, if_pos hpos, Y4.out, List.map_append, j6.out, List.append_assoc]; rfl)
         clear hb7
         go_wp2_with (first
           | (refine yv uz (by decide) zgb zly (by decide) rfl _ _ 35 rfl Tryz.underlying35 w1.heap.size (.slice oa2 us2.length oc2) us2 rfl z6.out.row (.slice (some ⟨wr.heap.size, 0, none⟩) 1 1) [(⟨k, id, sv, docs⟩, ⟨ua, un, uc⟩)] rfl (GSl.one (by simp) HNW.out) (by have := Q9.out; simp; omega) HB7.out.size ?_
              intro v8 w8 hr8 hg8 _
              clear q0 q1 y2 q3)
           | fail)
         have Y6 := zv2 (z6.out.append (fun p hp => by
           rw [List.mem_singleton] at hp
           rw [hp]; exact Y5.out) hr8 hg8)
         have Y7 : Hid (Below w1.heap.size w1 w8) := zv2 (HB7.out.grown hg8 HB7.out.size (fun b hb => z6.out.row.block b hb))
         clear hr8 hg8
         go_wp2
         go_roundw
         case rel => exact ⟨m + 1, _, by omega, by go_num, Y6.out, j9.out, Y7.out⟩
         case measure => simp [intOf]; omega
        ·have Y9 : sv ≤ 0 := by omega
         have j9 : Hid (us2.map (·.1) = V.jr ys l k ++ V.rhTo ys k c I (m + 1)) := zv2 (by
           rw [v1.out, if_neg hpos, List.append_nil]; exact j6.out)
         go_wp2
         go_roundw
         case rel => exact ⟨m + 1, us2, by omega, by go_num, q4.out, j9.out, Q7.out⟩
         case measure => simp [intOf]; omega
     ·obtain rfl : m = I.length := by omega
      have Y8 : Hid (us2.map (·.1) = V.jr ys l (k + 1)) := zv2 (by rw [j6.out, HST.out, HI.out, V.rhTo_all])
      go_wp2
      go_roundw
      case rel => exact ⟨k + 1, us2, by omega, by go_num, k7.out, Y8.out, g8.out, .inr trivial⟩
      case measure => simp [intOf]; omega
  ·obtain rfl : k = l.length := by omega
   have j5 : Hid (us.map (·.1) = V.xd (V.qn d time l) (xs.map (·.n)) l) := zv2 (by
     rw [k4.out, HOK.out, j0.out]
     rcases G7.out with h | h
     · unfold V.xd; rw [h]; split <;> rfl
     · rw [h]; rfl)
   go_wp2
   go_ret
   exact ⟨_, us, rfl, q5.out.weaken (Nat.le_of_lt k0.out), j5.out, HBW.out⟩
end Go.Proofs.YtbikeahmldobkaaGreatDoor
