/-
  Lemmas for the law.
-/
import Derived.Test.YtbikeahmldobkaaGreatDoorC41x41
import Derived.Test.YtbikeahmldobkaaGreatDoorC41x45
set_option linter.all false
set_option maxRecDepth 100000
set_option maxHeartbeats 12800000
namespace Go.Proofs.YtbikeahmldobkaaGreatDoor
open Go.RowKit
namespace V
theorem zo0 (xs : List Note) (x : Note) (c : Comp) (id : Bs) : selN (xs ++ [x]) c id = if x.adv.id = id /\ cov x c = true then selN xs c id ++ [x] else selN xs c id := by
 unfold selN
 rw [List.filter_append]
 by_cases h : x.adv.id = id /\ cov x c = true
 ·rw [if_pos h]; simp [h.1, h.2]
 ·rw [if_neg h]
  have : (decide (x.adv.id = id) && cov x c) = false := by
   rw [Bool.and_eq_false_iff, decide_eq_false_iff_not]
   by_cases e : x.adv.id = id
   ·exact .inr (by simpa using fun q => h ⟨e, q⟩)
   ·exact .inl e
  simp [this]
theorem zov (l : List Note) (x : Note) : sevN (l ++ [x]) = max (sevN l) x.adv.sev := by unfold sevN; rw [List.foldl_append]; rfl
theorem zlx (l : List Note) (x : Note) : ku (l ++ [x]) = addC cmpI (ku l) x.doc := by unfold ku; rw [List.map_append]; exact zew
theorem zh0 (l : List Note) : (ku l).length ≤ l.length := by
 have := yv (c := cmpI) (l := []) (xs := l.map (·.doc))
 unfold ku
 simp at this
 exact this
def rhTo (ys : List Note) (i : Int) (c : Comp) (I : List Bs) (m : Nat) : List Hit := ((I.take m).map (hitN ys i c)).filter fun h => decide (0 < h.sev)
theorem zoo {ys : List Note} {i : Int} {c : Comp} {I : List Bs} {m : Nat} (h : m < I.length) : rhTo ys i c I (m + 1) = rhTo ys i c I m ++ if 0 < sevN (selN ys c I[m]) then [hitN ys i c I[m]] else [] := by
 unfold rhTo
 rw [List.take_succ_eq_append_getElem h, List.map_append, List.filter_append]
 congr 1
 rw [List.map_cons, List.map_nil, List.filter_cons]
 unfold hitN
 by_cases q : 0 < sevN (selN ys c I[m])
 ·rw [if_pos (decide_eq_true q), if_pos q]; rfl
 ·rw [if_neg (by simpa using q), if_neg q]; rfl
theorem rhTo_all (ys : List Note) (i : Int) (c : Comp) : rhTo ys i c (idsN ys) (idsN ys).length = um ys i c := by
 unfold rhTo
 rw [List.take_length]
 exact hits_of ys i c
theorem rhTo_len (ys : List Note) (i : Int) (c : Comp) (I : List Bs) (m : Nat) : (rhTo ys i c I m).length ≤ m := by
 unfold rhTo
 refine Nat.le_trans (List.length_filter_le _ _) ?_
 rw [List.length_map, List.length_take]
 omega
end V
theorem Strs.atS {w : World} {a : Option Addr} {n cap : Nat} {l : List V.Bs} (h : Strs w (.slice a n cap) l) (j : Nat) (hj : j < l.length) : ∃ g off, a = some ⟨g, off, none⟩ /\ g < w.heap.size /\ w.cell? ⟨g, off + j, none⟩ = some (.string ⟨l[j].toArray⟩) := by
 obtain ⟨a', c, e, hc⟩ := h
 cases e
 exact hc j hj
theorem zqu {P : Prop} (h : P := by
 go_wp2
 go_roundw
 case rel => exact ⟨q + 1, ⟨ua, un, uc⟩, by omega, by go_num, by rw [HS2.out]; exact HGE.out, by rw [HS2.out]; exact HDE.out, by rw [HS2.out]; exact HSLE.out, HE.out⟩
 case measure => simp [intOf]; omega) : P := h
theorem zhd (d : List Int) (time : Int) (v : Value) (l : List V.Comp) (nv : Value) (xs : List NV) (w : World) (hm : zm w) (hd : d.length = 32) (hdw : ∀ n ∈ d, (Lit.int .u8 n).wf = true) (hv : Comps w v l) (hl : l.length ≤ 100) (hn : Notes w nv xs) (hx : xs.length ≤ 900) :
  Calls Tryz.prog 18 #[.agg (icells d time v), nv] w (zkm (V.qc d time l) (xs.map (·.n)) l w) := by
 have HM := zpa hm
 have HL := zpa hv
 have HD := zpa hd
 have HDW := zpa hdw
 have HNV := zpa hn
 have HX := zpa hx
 have h33 := xq hd time v
 have HSZ := zpa (qo hd time v)
 obtain ⟨va, vc, rfl, hjunk⟩ := hv
 obtain ⟨na, nc, rfl⟩ := hn.slice
 obtain ⟨W0, hW0⟩ : ∃ W0, W0 = w.alloc (.cells (icells d time (.slice va l.length vc)) 29) := ⟨_, rfl⟩
 have HB0 : Hid (Below w.heap.size w W0) := zpa (by rw [hW0]; exact (zpd w.heap.size w).alloc (zpc _) _)
 have HG0 : Hid (W0.heap[w.heap.size]? = some (.cells (icells d time (.slice va l.length vc)) 29 (0, 0))) := zpa (by rw [hW0]; exact heap_alloc_new w _)
 have HZ0 : Hid (w.heap.size < W0.heap.size) := zpa (by rw [hW0]; simp)
 have HW := zpa hW0
 have H33 := zpa h33
 clear hd hdw hjunk hm hn hx hW0 h33
 go_enter Tryz.func18, Tryz.ntmps18
 go_wp2_with fail
 rw [← HW.out]
 refine (rids_any (.slice na xs.length nc) xs W0 (HNV.out.below HB0.out) HX.out).mono ?_
 rintro e w1 ⟨iu, rfl, hiu, hsl, hb1⟩
 have HIU := zpa hiu
 have HB1 := zpb HB0 hb1
 have HG1 := zpa ((hb1.block _ HZ0.out).trans HG0.out)
 have HZ1 : Hid (w.heap.size < w1.heap.size) := zpa (Nat.lt_of_lt_of_le HZ0.out hb1.size)
 obtain ⟨ia, ic, hie, hjunk⟩ := hiu
 obtain ⟨I, hI⟩ : ∃ I, I = V.idsN (xs.map (·.n)) := ⟨_, rfl⟩
 have HI := zpa hI
 have HIL : Hid (I.length ≤ 900) := zpa (by
   have := V.yv (c := Lib.compareBytes) (l := []) (xs := (xs.map (·.n)).map (·.adv.id))
   have h9 := HX.out
   rw [hI]
   unfold V.idsN
   simp at this ⊢
   omega)
 rw [← hI] at hie HIU
 subst hie
 generalize hys : xs.map (·.n) = ys at *
 have HYS := zpa hys
 generalize hok : V.qc d time l = ok at *
 have HOK := zpa hok
 clear hb1 hsl hjunk hI hys hok
 go_wp2_with fail
 go_loopw [5, 7] (fun ov iv wx => ∃ (k : Nat) (us : List (V.Hit × Sd)), k ≤ l.length /\ iv = .int .i64 k /\ HRow w1.heap.size wx ov us /\ us.map (·.1) = V.qu ys l k /\ Below w1.heap.size w1 wx /\ (k = 0 ∨ ok = true)) (fun _ iv _ => l.length - (intOf iv).toNat)
 case atStart => exact ⟨0, [], Nat.zero_le _, rfl, HRow.nil _ _, rfl, zpd _ _, .inl rfl⟩
 case round =>
  obtain ⟨k, us, hk, rfl, hrow, hsaid, hbx, hko⟩ := hrel
  have HROW := zpa hrow
  have HSD := zpa hsaid
  have HBX := zpa hbx
  have HKO := zpa hko
  have HBW := zpb HB1 hbx
  have HGW := zpa ((hbx.block _ HZ1.out).trans HG1.out)
  have hc33 : wr.cell? ⟨w.heap.size, 33, none⟩ = some (.slice va l.length vc) := by rw [cell_of_row wr w.heap.size 33 _ _ _ HGW.out]; exact H33.out
  have HUL : Hid (us.length ≤ 90000) := zpa (by
    have h1 := V.wj ys l k
    have h3 : ys.length = xs.length := by rw [← HYS.out, List.length_map]
    rw [← hsaid, List.length_map, h3] at h1
    have h2 : k * xs.length ≤ 100 * 900 := Nat.mul_le_mul (by omega) HX.out
    omega)
  obtain ⟨oa, oc, hov⟩ := hrow.row.slice
  subst hov
  clear hrow hsaid hbx hko
  by_cases hlt : k < l.length
  ·go_wp2_with (first | (refine zni rfl (.agg (icells d time (.slice va l.length vc))) (ul (ty := 29) rfl rfl (zam HGW.out Tryz.underlying29 rfl (by rw [jg, HSZ.out]))) ?_) | fail)
   refine (zc2 d time (.slice va l.length vc) l _ (HM.out.below HBW.out) HD.out HDW.out (HL.out.below HBW.out) (by unfold maxLen; omega)).mono ?_
   rintro e wv ⟨rfl, hbv⟩
   rw [HOK.out]
   have HBV := zpb HBX hbv
   have HBWV := zpb HBW hbv
   have HROWV := zpa (HROW.out.below hbv)
   have HGV := zpa ((hbv.block _ (Array.getElem?_eq_some_iff.1 HGW.out).1).trans HGW.out)
   clear hbv hc33
   rcases ok with _ | _
   ·have hk0 : k = 0 := by rcases HKO.out with h | h; exact h; cases h
    have HEND : Hid (us.map (·.1) = V.jq (V.qc d time l) (xs.map (·.n)) l) := zpa (by rw [HSD.out, HOK.out, hk0]; rfl)
    clear hk0
    go_wp2
    go_ret
    exact ⟨_, us, rfl, HROWV.out.weaken (Nat.le_of_lt HZ1.out), HEND.out, HBWV.out⟩
   ·go_wp2_with fail
    obtain ⟨hxw, b, off0, hva, hblt, hxr⟩ := HL.out.at k hlt
    subst hva
    have HCW := zpa hxw
    have HCR := zpa hxr
    have HBL := zpa hblt
    have HST : Hid (V.qu ys l (k + 1) = V.qu ys l k ++ V.um ys k l[k]) := zpa (V.zdz hlt)
    have j1 : (0 : Int) ≤ (k : Int) := by omega
    have j2 : (k : Int) < (l.length : Int) := by omega
    clear hxw hxr hblt
    generalize l[k] = c at *
    go_loopw [5, 8] (fun ov iv wx => ∃ (m : Nat) (us : List (V.Hit × Sd)), m ≤ I.length /\ iv = .int .i64 m /\ HRow w1.heap.size wx ov us /\ us.map (·.1) = V.qu ys l k ++ V.rhTo ys k c I m /\ Below w1.heap.size w1 wx) (fun _ iv _ => I.length - (intOf iv).toNat)
    case atStart => exact ⟨0, us, Nat.zero_le _, rfl, HROWV.out, by rw [HSD.out]; simp [V.rhTo], HBV.out⟩
    case round =>
     obtain ⟨m, us2, hm1, rfl, hrow, hsaid, hbx⟩ := hrel
     have HROW2 := zpa hrow
     have HSD2 := zpa hsaid
     have HBX2 := zpa hbx
     have HBW2 := zpb HB1 hbx
     have HGW2 := zpa ((hbx.block _ HZ1.out).trans HG1.out)
     have HUL2 : Hid (us2.length ≤ 100000) := zpa (by
       have h1 := V.rhTo_len ys k c I m
       have h2 := HUL.out
       have h3 := HIL.out
       have h4 : us.length = (V.qu ys l k).length := by rw [← HSD.out, List.length_map]
       rw [← List.length_map (f := (·.1)), hsaid, List.length_append]
       omega)
     obtain ⟨oa2, oc2, hov⟩ := hrow.row.slice
     subst hov
     clear hrow hsaid hbx
     by_cases hml : m < I.length
     ·obtain ⟨gi, oi, hia, hgi, hic⟩ := HIU.out.atS m hml
      subst hia
      have HIC := zpa hic
      have hcid := zg HBX2.out hic
      have hmb : m < 1000 := by have := HIL.out; omega
      have m1 : (0 : Int) ≤ (m : Int) := by omega
      have m2 : (m : Int) < (I.length : Int) := by omega
      have HSTM : Hid (V.rhTo ys k c I (m + 1) = V.rhTo ys k c I m ++ if 0 < V.sevN (V.selN ys c I[m]) then [V.hitN ys k c I[m]] else []) := zpa (V.zoo hml)
      clear hic
      generalize I[m] = id at *
      obtain ⟨Y, hY⟩ : ∃ Y, Y = wr.heap.size := ⟨_, rfl⟩
      have HYE := zpa hY
      have hzy : (wr.alloc (.cells #[.int .i64 k, .string ⟨id.toArray⟩, .int .i64 0, .slice none 0 0] 63)).heap.size = wr.heap.size + 1 := by simp
      have HGY : Hid ((wr.alloc (.cells #[.int .i64 k, .string ⟨id.toArray⟩, .int .i64 0, .slice none 0 0] 63)).heap[Y]? = some (.cells #[.int .i64 k, .string ⟨id.toArray⟩, .int .i64 0, .slice none 0 0] 63 (0, 0))) := zpa (by rw [hY]; exact heap_alloc_new wr _)
      have HBY : Hid (Below wr.heap.size wr (wr.alloc (.cells #[.int .i64 k, .string ⟨id.toArray⟩, .int .i64 0, .slice none 0 0] 63))) := zpa ((zpd _ wr).alloc (zpc _) _)
      have HZY := zpa hzy
      clear hzy hY
      go_wp2_with fail
      clear hcid
      generalize wr.alloc (.cells #[.int .i64 k, .string ⟨id.toArray⟩, .int .i64 0, .slice none 0 0] 63) = wy at *
      rw [← HYE.out]
      generalize wr = wp at *
      have HPY : Hid (wp.heap.size ≤ Y) := zpa (by rw [HYE.out]; exact zpc _)
      have HBWP := HBW2
      clear HBW2
      go_loopw [10] (fun iv wx => ∃ (q : Nat) (u : Sd), q ≤ xs.length /\ iv = .int .i64 q /\ wx.heap[Y]? = some (.cells #[.int .i64 k, .string ⟨id.toArray⟩, .int .i64 (V.sevN (V.selN (ys.take q) c id)), u.v] 63 (0, 0)) /\ Digs wx u.v (V.ku (V.selN (ys.take q) c id)) /\ SlOk wx u.v (V.ku (V.selN (ys.take q) c id)).length /\ Below wp.heap.size wp wx) (fun iv _ => xs.length - (intOf iv).toNat)
      case atStart => exact ⟨0, ⟨none, 0, 0⟩, Nat.zero_le _, rfl, HGY.out, Digs.nil _, SlOk.nil _, HBY.out⟩
      case round =>
       clear HGY HBY HZY
       obtain ⟨q, ⟨ua, un, uc⟩, hq, rfl, hgy, hdg, hso, hbx⟩ := hrel
       have HGYr := zpa hgy
       have HDGr := zpa hdg
       have HSOr := zpa hso
       have HBXr := zpa hbx
       have HBWr := zpb HBWP hbx
       obtain ⟨hun, hjunk⟩ : un = (V.ku (V.selN (ys.take q) c id)).length /\ True := by
        obtain ⟨a, cp, e, _⟩ := hdg
        exact ⟨(Value.slice.inj e).2.1, trivial⟩
       have HUN := zpa hun
       unfold Sd.v at HGYr HDGr HSOr
       clear hgy hdg hso hbx hun hjunk
       by_cases hql : q < xs.length
       ·obtain ⟨hok9, g, off, hna, hg, hr⟩ := (HNV.out.below HBWP.out).at q hql
        subst hna
        have HOKP := zpa hok9
        have HNRP := zpa hr
        have HOK1 := zpa (hok9.below HBXr.out)
        have HNRr := zpa (zh hr HBXr.out)
        have HYQ : Hid (ys.take (q + 1) = ys.take q ++ [xs[q].n]) := zpa (by
          have hlq : q < ys.length := by rw [← HYS.out, List.length_map]; exact hql
          rw [List.take_succ_eq_append_getElem hlq]
          congr 1
          have : ys[q] = xs[q].n := by
            have h9 := HYS.out
            subst h9
            simp
          rw [this])
        have HDL : Hid ((V.ku (V.selN (ys.take q) c id)).length ≤ 1000) := zpa (by
          have h1 := V.zh0 (V.selN (ys.take q) c id)
          have h2 : (V.selN (ys.take q) c id).length ≤ (ys.take q).length := List.length_filter_le _ _
          have h3 : (ys.take q).length ≤ q := by simp; omega
          have h4 := HX.out
          omega)
        have hqb : q < 1000 := by have := HX.out; omega
        have q1 : (0 : Int) ≤ (q : Int) := by omega
        have q2 : (q : Int) < (xs.length : Int) := by omega
        clear hok9 hr
        generalize xs[q] = x at *
        have HSEL := zpa (V.zo0 (ys.take q) x.n c id)
        rw [← HYQ.out] at HSEL
        generalize hs2 : V.selN (ys.take (q + 1)) c id = sel2 at *
        have HS2 := zpa hs2
        clear hs2
        generalize V.selN (ys.take q) c id = sel at *
        generalize hsv : V.sevN sel = sv at *
        generalize hdc : V.ku sel = docs at *
        have HSV := zpa hsv
        have HDC := zpa hdc
        have HUNE := HUN
        have hc33 : wr.cell? ⟨w.heap.size, 33, none⟩ = some (.slice (some ⟨b, off0, none⟩) l.length vc) := by
         rw [cell_of_row wr w.heap.size 33 _ _ _ ((HBXr.out.block _ (Array.getElem?_eq_some_iff.1 HGW2.out).1).trans HGW2.out)]; exact H33.out
        have hb2 : Below wr.heap.size wr (wr.alloc (.cells (ccells c) 60)) := (zpd _ wr).alloc (zpc _) _
        have HRC := zpa (zh HCR.out HBWr.out)
        have HB2 := zpb HBXr hb2
        have HBW2 := zpb HBWr hb2
        have HYl : Hid (Y < wr.heap.size) := zpa (Array.getElem?_eq_some_iff.1 HGYr.out).1
        have HG2 := zpa ((hb2.block Y HYl.out).trans HGYr.out)
        have HDG2 := zpa (HDGr.out.below hb2)
        have HSL2 := zpa (HSOr.out.below hb2.size)
        have HOK2 := zpa (HOK1.out.below hb2)
        have HM2 := zpa (HM.out.below HBW2.out)
        have HNR2 := zpa (zh HNRr.out hb2)
        have hrc := vd c wr 60
        have k1 : (wr.alloc (.cells (ccells c) 60)).cell? ⟨wr.heap.size, 1, none⟩ = some (.int .i64 c.sch) := hrc 1 _ rfl
        have k2 : (wr.alloc (.cells (ccells c) 60)).cell? ⟨wr.heap.size, 2, none⟩ = some (.string ⟨c.name.toArray⟩) := hrc 2 _ rfl
        have k3 : (wr.alloc (.cells (ccells c) 60)).cell? ⟨wr.heap.size, 3, none⟩ = some (.string ⟨c.ver.toArray⟩) := hrc 3 _ rfl
        obtain ⟨n0, n1, n2, n3, nr, _⟩ := je HOK1.out.doc HNR2.out
        have NR := zpa nr
        have s0 : (wr.alloc (.cells (ccells c) 60)).cell? ⟨gi, oi + m, none⟩ = some (.string ⟨id.toArray⟩) := zg HB2.out (zg HBX2.out HIC.out)
        clear hb2 hrc nr hsv hdc hg
        go_wp2_with (first
          | (refine vt rfl _ rfl b (off0 + k * 36) rfl c HCW.out HRC.out ?_)
          | (refine zb7 rfl _ _ rfl _ _ rfl c HCW.out rfl rfl ?_
             generalize wr.alloc (.cells (ccells c) 60) = w2 at *
             generalize wr.heap.size = X at *)
          | fail)
        clear hc33
        by_cases hidq : x.n.adv.id = id
        ·have hb : (x.n.adv.id == id) = true := by rw [beq_iff_eq]; exact hidq
         have HIDQ := zpa hidq
         clear hidq
         refine wp_region_held_drew (S := (fun W' => Below w2.heap.size w2 W' /\ W'.cell? ⟨g, off + q * 37, none⟩ = some (.string ⟨x.n.adv.id.toArray⟩) /\ W'.cell? ⟨g, off + q * 37 + 1, none⟩ = some (.int .i64 x.n.adv.rev) /\ W'.cell? ⟨g, off + q * 37 + 2, none⟩ = some (.int .i64 x.n.adv.sev) /\ W'.cell? ⟨g, off + q * 37 + 3, none⟩ = some (x.u) /\ W'.cell? ⟨gi, oi + m, none⟩ = some (.string ⟨id.toArray⟩) /\ W'.cell? ⟨X, 1, none⟩ = some (.int .i64 c.sch) /\ W'.cell? ⟨X, 2, none⟩ = some (.string ⟨c.name.toArray⟩) /\ W'.cell? ⟨X, 3, none⟩ = some (.string ⟨c.ver.toArray⟩))) (by kernel_rfl) (by (try dsimp only); exact ⟨(zpd _ _).drew, zg (zpd _ _).drew n0, zg (zpd _ _).drew n1, zg (zpd _ _).drew n2, zg (zpd _ _).drew n3, zg (zpd _ _).drew s0, zg (zpd _ _).drew k1, zg (zpd _ _).drew k2, zg (zpd _ _).drew k3⟩) (fun hHeld => ?_)
         refine tk 0 ?_
         refine tk 1 ?_
         refine tk 2 ?_
         refine tk 3 ?_
         refine tk 4 ?_
         refine tk 5 ?_
         refine tk 6 ?_
         refine tk 7 ?_
         refine tk 8 ?_
         refine tk 9 ?_
         refine tk 10 ?_
         refine tk 11 ?_
         refine tk 12 ?_
         refine tk 13 ?_
         refine tk 14 ?_
         refine tk 15 ?_
         refine tk 16 ?_
         refine tk 17 ?_
         refine tk 18 ?_
         refine tk 19 ?_
         refine tk 20 ?_
         refine tk 21 ?_
         refine tk 22 ?_
         refine rd 23 fun K hK => ?_
         go_simp
         refine (zfe x.n.adv x.u c.sch c.name c.ver _ (HM2.out.below (show Below w2.heap.size w2 _ from (by first | assumption | exact And.left (by assumption)))) (HOK2.out.affs.below (show Below w2.heap.size w2 _ from (by first | assumption | exact And.left (by assumption)))) HOK2.out.id HOK2.out.len HCW.out.ver).mono ?_
         rintro e wq23 ⟨rfl, hbq23⟩
         try dsimp only
         refine hK.out _ _ ?_ (fun hHeld => nx ?_)
         ·(try dsimp only); go_split_ands; exact ⟨Below.trans (by assumption) (hbq23.mono (Below.size (by assumption))), zpg hbq23, zpg hbq23, zpg hbq23, zpg hbq23, zpg hbq23, zpg hbq23, zpg hbq23, zpg hbq23⟩
         clear hK K
         refine tk 24 ?_
         refine wpAnyH_done (by kernel_rfl) ?_ _
         rw [V.cov_rcov]
         have HE := zpa (HB2.out.trans (hHeld.1.mono HB2.out.size))
         have HB3 := zpa hHeld.1
         have HG3 := zpa ((hHeld.1.block Y (Array.getElem?_eq_some_iff.1 HG2.out).1).trans HG2.out)
         have HDG3 := zpa (HDG2.out.below hHeld.1)
         have HSL3 := zpa (HSL2.out.below hHeld.1.size)
         have HCV : Hid (V.cov x.n c = V.covP x.n.adv c.sch c.name c.ver) := zpa rfl
         clear hHeld n0 n1 n2 n3 s0 k1 k2 k3 hb hbq23
         generalize wq23 = w3 at *
         rcases hcv : V.covP x.n.adv c.sch c.name c.ver with _ | _
         ·have HSE : Hid (sel2 = sel) := zpa (by rw [HSEL.out, if_neg (fun h => by have := h.2; rw [HCV.out, hcv] at this; cases this)])
          have HGE := HG3
          have HDE := HDG3
          have HSLE := HSL3
          rw [← HSV.out, ← HSE.out] at HGE
          rw [← HDC.out, ← HSE.out] at HDE HSLE
          clear hcv
          exact zqu
         ·have HSE : Hid (sel2 = sel ++ [x.n]) := zpa (by rw [HSEL.out, if_pos ⟨HIDQ.out, by rw [HCV.out, hcv]⟩])
          clear hcv
          have HY3 := HG3
          have HBP3 := HE
          have HNR3 := zpa (zh HNR2.out HB3.out)
          have HN2 : Hid (wp.cell? ⟨g, off + q * 37 + 2, none⟩ = some (.int .i64 x.n.adv.sev)) := zpa (je HOKP.out.doc HNRP.out).2.2.1
          have y2 : w3.cell? ⟨Y, 2, none⟩ = some (.int .i64 sv) := by rw [cell_of_row _ _ _ _ _ _ HY3.out]; rfl
          have y2d : w3.drew.cell? ⟨Y, 2, none⟩ = some (.int .i64 sv) := y2
          go_wp2_with fail
          refine wp_region_held_drew (S := (fun W' => Below wp.heap.size wp W')) (by kernel_rfl) (HBP3.out.drew) (fun hHeld => ?_)
          refine tk 0 ?_
          refine tk 2 ?_
          refine tk 3 ?_
          refine tk 4 ?_
          refine tk 5 ?_
          refine tk 6 ?_
          refine tv 7 (.int .i64 x.n.adv.sev) ?_ ?_
          ·exact fun w' hSw => ul rfl rfl (by have hq := zg hSw HN2.out; go_simp)
          refine rd 1 fun K hK => ?_
          refine zkf rfl (.int .i64 sv) (ul rfl rfl (by go_simp)) ?_
          refine hK.out _ _ ?_ (fun hHeld => nx ?_)
          ·(try dsimp only); exact hHeld
          clear hK K
          refine tk 8 ?_
          refine tk 9 ?_
          refine rd 10 fun K hK => ?_
          refine zbc rfl 3 _ _ rfl Y 2 _ _ HY3.out (by show 2 < 4; omega) rfl (.int .i64 (max sv x.n.adv.sev)) rfl zl4 rfl (fun w4 hp4 => ?_)
          refine hK.out _ _ ?_ (fun hHeld => nx ?_)
          ·(try dsimp only); exact hp4.below hHeld HPY.out
          clear hK K
          refine wpAnyH_done (by kernel_rfl) ?_ _
          simp only [zo8, List.set_cons_succ, List.set_cons_zero] at hp4
          have HY4 := zpa hp4.here
          have HBP4 := zpa (hp4.below HBP3.out.drew HPY.out)
          have HDG4 : Hid (Digs w4 (.slice ua un uc) docs) := zpa ((HDG3.out.below (zpd _ w3).drew).grow hp4.grown (fun b e => by cases e; exact ⟨_, _, _, HY3.out, by decide⟩))
          have HSL4 : Hid (SlOk w4 (.slice ua un uc) docs.length) := zpa (HSL3.out.below hp4.grown.size)
          have HNR : Hid (wp.rangeAt g (off + q * 37 + 4) (zk x.n.doc)) := zpa (je HOKP.out.doc HNRP.out).2.2.2.2.1
          have y3 : w4.cell? ⟨Y, 3, none⟩ = some (.slice ua un uc) := by rw [cell_of_row _ _ _ _ _ _ HY4.out]; rfl
          have y3d : w4.drew.cell? ⟨Y, 3, none⟩ = some (.slice ua un uc) := y3
          clear hp4 hHeld y2 y2d
          go_wp2_with fail
          refine wp_region_held_drew (S := (fun W' => Below wp.heap.size wp W')) (by kernel_rfl) (HBP4.out.drew) (fun hHeld => ?_)
          refine tk 0 ?_
          refine tk 2 ?_
          refine tk 3 ?_
          refine tk 4 ?_
          refine tk 5 ?_
          refine tv 6 (.agg (dcells x.n.doc)) ?_ ?_
          ·exact fun w' hSw => ya rfl rfl HOK2.out.doc (zh HNR.out hSw)
          refine rd 1 fun K hK => ?_
          refine zkf rfl (.slice ua un uc) (ul rfl rfl (by go_simp)) ?_
          refine hK.out _ _ ?_ (fun hHeld => nx ?_)
          ·(try dsimp only); exact hHeld
          clear hK K
          refine rd 7 fun K hK => ?_
          go_simp
          refine (zog (.slice ua un uc) docs x.n.doc _ (HDG4.out.below (zpd _ _).drew) (HSL4.out.below (zpc _)) HOK2.out.doc HDL.out).mono ?_
          rintro e w6 ⟨u6, rfl, hd6, hs6, hb6⟩
          try dsimp only
          have HY6 := zpa ((hb6.block Y (Array.getElem?_eq_some_iff.1 HY4.out).1).trans HY4.out)
          have hu1 := hd6.one
          refine hK.out _ _ ?_ (fun hHeld => nx ?_)
          ·(try dsimp only); exact hHeld.trans (hb6.mono hHeld.size)
          clear hK K
          refine tk 8 ?_
          refine rd 9 fun K hK => ?_
          refine zbc rfl 55 _ _ rfl Y 3 _ _ HY6.out (by show 3 < 4; omega) rfl u6 rfl zi4 hu1 (fun w7 hp7 => ?_)
          refine hK.out _ _ ?_ (fun hHeld => nx ?_)
          ·(try dsimp only); exact hp7.below hHeld HPY.out
          clear hK K
          refine wpAnyH_done (by kernel_rfl) ?_ _
          simp only [zo8, List.set_cons_succ, List.set_cons_zero] at hp7
          have HY7 := zpa hp7.here
          have HBP7 := zpa hHeld
          have HDG7 := zpa (hd6.grow hp7.grown (fun b e => by cases e; exact ⟨_, _, _, HY6.out, by decide⟩))
          have HSL7 := zpa (hs6.below hp7.grown.size)
          obtain ⟨a6, c6, he6, hjunk⟩ := hd6
          have HSVE : Hid (V.sevN sel2 = max sv x.n.adv.sev) := zpa (by rw [HSE.out, V.zov, HSV.out])
          have HDCE : Hid (V.ku sel2 = V.addC V.cmpI docs x.n.doc) := zpa (by rw [HSE.out, V.zlx, HDC.out])
          rw [← HDCE.out] at HDG7 HSL7 he6
          rw [← HSVE.out] at HY7
          subst he6
          clear hp7 hHeld hs6 hb6 hu1 hjunk y3 y3d
          go_wp2
          go_roundw
          case rel => exact ⟨q + 1, ⟨a6, _, c6⟩, by omega, by go_num, by rw [HS2.out]; exact HY7.out, by rw [HS2.out]; exact HDG7.out, by rw [HS2.out]; exact HSL7.out, HBP7.out⟩
          case measure => simp [intOf]; omega
        ·have hb : (x.n.adv.id == id) = false := by rw [zpe]; exact hidq
         have HSE : Hid (sel2 = sel) := zpa (by rw [HSEL.out, if_neg (fun h => hidq h.1)])
         clear hidq n1 n2 n3 k1 k2 k3
         refine wp_region_held_drew (S := (fun W' => Below w2.heap.size w2 W' /\ W'.cell? ⟨g, off + q * 37, none⟩ = some (.string ⟨x.n.adv.id.toArray⟩) /\ W'.cell? ⟨gi, oi + m, none⟩ = some (.string ⟨id.toArray⟩))) (by kernel_rfl) (by (try dsimp only); exact ⟨(zpd _ _).drew, zg (zpd _ _).drew n0, zg (zpd _ _).drew s0⟩) (fun hHeld => ?_)
         refine tk 0 ?_
         refine tk 1 ?_
         refine tk 2 ?_
         refine tk 3 ?_
         refine tk 4 ?_
         refine tk 5 ?_
         refine tk 6 ?_
         refine tk 7 ?_
         refine tk 8 ?_
         refine tk 9 ?_
         refine tk 10 ?_
         refine tk 11 ?_
         refine tu 12 ?_
         refine tu 13 ?_
         refine tu 14 ?_
         refine tu 15 ?_
         refine tu 16 ?_
         refine tu 17 ?_
         refine tu 18 ?_
         refine tu 19 ?_
         refine tu 20 ?_
         refine tu 21 ?_
         refine tu 22 ?_
         refine tu 23 ?_
         refine tk 24 ?_
         refine wpAnyH_done (by kernel_rfl) ?_ _
         have HE := zpa (HB2.out.trans (hHeld.1.mono HB2.out.size))
         have HGE := zpa ((hHeld.1.block Y (Array.getElem?_eq_some_iff.1 HG2.out).1).trans HG2.out)
         have HDE := zpa (HDG2.out.below hHeld.1)
         have HSLE := zpa (HSL2.out.below hHeld.1.size)
         rw [← HSV.out, ← HSE.out] at HGE
         rw [← HDC.out, ← HSE.out] at HDE HSLE
         clear hHeld n0 s0 hb
         exact zqu
       ·obtain rfl : q = xs.length := by omega
        have HTK : Hid (ys.take xs.length = ys) := zpa (List.take_of_length_le (by rw [← HYS.out, List.length_map]; exact zpc _))
        rw [HTK.out] at HGYr HDGr HSOr HUN
        have HHN : Hid (V.hitN ys k c id = ⟨k, id, V.sevN (V.selN ys c id), V.ku (V.selN ys c id)⟩) := zpa rfl
        generalize V.selN ys c id = sel at *
        generalize V.sevN sel = sv at *
        generalize V.ku sel = docs at *
        have HROWr := zpa (HROW2.out.below HBXr.out)
        have HBr := zpa (HBX2.out.trans (HBXr.out.mono HBX2.out.size))
        have y2 : wr.cell? ⟨Y, 2, none⟩ = some (.int .i64 sv) := by rw [cell_of_row _ _ _ _ _ _ HGYr.out]; rfl
        by_cases hpos : 0 < sv
        ·have hb7 : Below wr.heap.size wr (wr.alloc (.cells #[.int .i64 k, .string ⟨id.toArray⟩, .int .i64 sv, .slice ua un uc] 63)) := (zpd _ wr).alloc (zpc _) _
         have HR7 := zpa (HROWr.out.below hb7)
         have HD7 := zpa (HDGr.out.below hb7)
         have HB7 := zpb HBr hb7
         have HNW := zpa (zi7 wr ⟨k, id, sv, docs⟩ ⟨ua, un, uc⟩)
         have q0 : wr.cell? ⟨Y, 0, none⟩ = some (.int .i64 k) := by rw [cell_of_row _ _ _ _ _ _ HGYr.out]; rfl
         have q1 : wr.cell? ⟨Y, 1, none⟩ = some (.string ⟨id.toArray⟩) := by rw [cell_of_row _ _ _ _ _ _ HGYr.out]; rfl
         have q3 : wr.cell? ⟨Y, 3, none⟩ = some (.slice ua un uc) := by rw [cell_of_row _ _ _ _ _ _ HGYr.out]; rfl
         have HSD9 : Hid ((us2 ++ [((⟨k, id, sv, docs⟩ : V.Hit), (⟨ua, un, uc⟩ : Sd))]).map (·.1) = V.qu ys l k ++ V.rhTo ys k c I (m + 1)) := zpa (by
           rw [HSTM.out, if_pos hpos, HHN.out, List.map_append, HSD2.out, List.append_assoc]; rfl)
         clear hb7
         go_wp2_with (first
           | (refine ud xk (by decide) zc3 zhm (by decide) rfl _ _ 35 rfl Tryz.underlying35 w1.heap.size (.slice oa2 us2.length oc2) us2 rfl HR7.out.row (.slice (some ⟨wr.heap.size, 0, none⟩) 1 1) [(⟨k, id, sv, docs⟩, ⟨ua, un, uc⟩)] rfl (GSl.one (by simp) HNW.out) (by have := HUL2.out; simp; omega) HB7.out.size ?_
              intro v8 w8 hr8 hg8 _
              clear q0 q1 y2 q3)
           | fail)
         have HR8 := zpa (HR7.out.append (fun p hp => by
           rw [List.mem_singleton] at hp
           rw [hp]; exact HD7.out) hr8 hg8)
         have HB8 : Hid (Below w1.heap.size w1 w8) := zpa (HB7.out.grown hg8 HB7.out.size (fun b hb => HR7.out.row.block b hb))
         clear hr8 hg8
         go_wp2
         go_roundw
         case rel => exact ⟨m + 1, _, by omega, by go_num, HR8.out, HSD9.out, HB8.out⟩
         case measure => simp [intOf]; omega
        ·have hpos2 : sv ≤ 0 := by omega
         have HSD9 : Hid (us2.map (·.1) = V.qu ys l k ++ V.rhTo ys k c I (m + 1)) := zpa (by
           rw [HSTM.out, if_neg hpos, List.append_nil]; exact HSD2.out)
         go_wp2
         go_roundw
         case rel => exact ⟨m + 1, us2, by omega, by go_num, HROWr.out, HSD9.out, HBr.out⟩
         case measure => simp [intOf]; omega
     ·obtain rfl : m = I.length := by omega
      have HS9 : Hid (us2.map (·.1) = V.qu ys l (k + 1)) := zpa (by rw [HSD2.out, HST.out, HI.out, V.rhTo_all])
      go_wp2
      go_roundw
      case rel => exact ⟨k + 1, us2, by omega, by go_num, HROW2.out, HS9.out, HBX2.out, .inr trivial⟩
      case measure => simp [intOf]; omega
  ·obtain rfl : k = l.length := by omega
   have HEND : Hid (us.map (·.1) = V.jq (V.qc d time l) (xs.map (·.n)) l) := zpa (by
     rw [HSD.out, HOK.out, HYS.out]
     rcases HKO.out with h | h
     · unfold V.jq; rw [h]; split <;> rfl
     · rw [h]; rfl)
   go_wp2
   go_ret
   exact ⟨_, us, rfl, HROW.out.weaken (Nat.le_of_lt HZ1.out), HEND.out, HBW.out⟩
end Go.Proofs.YtbikeahmldobkaaGreatDoor
