/-
  Lemmas for the law.
-/
import Derived.Test.YtbikeahmldobkaaGreatDoorC50x28
import Derived.Test.YtbikeahmldobkaaGreatDoorC50x46
import Derived.Test.YtbikeahmldobkaaGreatDoorC50x43
set_option linter.all false
set_option maxRecDepth 100000
set_option maxHeartbeats 6400000
namespace Go.Proofs.YtbikeahmldobkaaGreatDoor
open Go.RowKit
namespace V
theorem zuz {l : List Comp} (ho : qg l l.length = true) {hs : List Hit} (hc : ∀ h ∈ hs, 0 ≤ h.comp /\ h.comp < l.length) : ug l hs (-1) = [] :=
 List.eq_nil_iff_forall_not_mem.2 fun h hh => by have := zqc ho hc h hh; omega
def ofId (d : Bs) (x : Note) : Bool := decide (x.adv.id = d)
theorem selN_of {xs : List Note} {c : Comp} {d : Bs} : selN (xs.filter (ofId d)) c d = selN xs c d := by
 unfold selN
 rw [List.filter_filter]
 congr 1
 funext x
 unfold ofId
 cases decide (x.adv.id = d) <;> simp
theorem hitsC_of {xs : List Note} {i : Int} {c : Comp} {d : Bs} : zae (xs.filter (ofId d)) i c = (zae xs i c).filter fun h => decide (h.id = d) := by
 unfold zae
 rw [List.filter_map]
 have e : km (xs.filter (ofId d)) c = (km xs c).filter ((fun h : Hit => decide (h.id = d)) ∘ hitN xs i c) := by
  refine zgr za1 (zbe _) ((zbe _).filter _) fun id => ?_
  rw [List.mem_filter, xv, xv]
  show _ ↔ _ /\ decide (id = d) = true
  rw [decide_eq_true_eq]
  constructor
  ·rintro ⟨x, hx, h1, h2⟩
   rw [List.mem_filter] at hx
   exact ⟨⟨x, hx.1, h1, h2⟩, by rw [← h1]; exact of_decide_eq_true hx.2⟩
  ·rintro ⟨⟨x, hx, h1, h2⟩, h3⟩
   exact ⟨x, List.mem_filter.2 ⟨hx, decide_eq_true (by rw [h1, h3])⟩, h1, h2⟩
 rw [e]
 refine List.map_congr_left fun id g0 => ?_
 rw [List.mem_filter] at g0
 have h1 : id = d := of_decide_eq_true g0.2
 subst h1
 unfold hitN
 rw [selN_of]
theorem zlp {xs : List Note} {l : List Comp} {d : Bs} : ∀ k, jh (xs.filter (ofId d)) l k = (jh xs l k).filter fun h => decide (h.id = d)
 | 0 => rfl
 | k + 1 => by
  rw [jh, jh, List.filter_append, zlp k]
  congr 1
  split
  ·exact hitsC_of
  ·rfl
theorem hitsP_of {ok : Bool} {xs : List Note} {l : List Comp} {d : Bs} : kx ok (xs.filter (ofId d)) l = (kx ok xs l).filter fun h => decide (h.id = d) := by
 unfold kx
 split
 ·exact zlp _
 ·rfl
theorem zm1 {xs : List Note} {l : List Comp} : ∀ {k : Nat}, ∀ h ∈ jh xs l k, h.id ∈ idsN xs
 | 0, h, hh => by simp [jh] at hh
 | k + 1, h, hh => by
  rw [jh, List.mem_append] at hh
  rcases hh with hh | hh
  ·exact zm1 h hh
  ·split at hh
   ·unfold zae at hh
    obtain ⟨id, g0, rfl⟩ := List.mem_map.1 hh
    rw [xv] at g0
    obtain ⟨x, hx, h1, _⟩ := g0
    exact zq9.2 ⟨x, hx, h1⟩
   ·simp at hh
theorem hitsP_id {ok : Bool} {xs : List Note} {l : List Comp} : ∀ h ∈ kx ok xs l, h.id ∈ idsN xs := by
 intro h hh
 unfold kx at hh
 split at hh
 ·exact zm1 h hh
 ·simp at hh
theorem zm7 (p : Hit -> Bool) : ∀ hs : List Hit, hs.length = (hs.filter p).length + (hs.filter fun x => !p x).length
 | [] => rfl
 | x :: hs => by
  have ih := zm7 p hs
  rw [List.filter_cons, List.filter_cons, List.length_cons, ih]
  cases p x
  ·simp; omega
  ·simp; omega
def zby (hs : List Hit) (d : Bs) : Nat := (hs.filter fun h => decide (h.id = d)).length
theorem zty : ∀ {ids : List Bs}, ids.Nodup -> ∀ {hs : List Hit}, (∀ x ∈ hs, x.id ∈ ids) -> (ids.map (zby hs)).sum = hs.length
 | [], _, hs, h => by
  cases hs with
  | nil => rfl
  | cons x hs => exact absurd (h x (by simp)) (by simp)
 | d :: ids, hn, hs, h => by
  have g0 := List.nodup_cons.1 hn
  have ih := zty g0.2 (hs := hs.filter fun h => !decide (h.id = d)) (fun x hx => by
    rw [List.mem_filter] at hx
    rcases List.mem_cons.1 (h x hx.1) with e | e
    · have := hx.2; rw [decide_eq_true e] at this; cases this
    · exact e)
  have e : ids.map (zby hs) = ids.map (zby (hs.filter fun h => !decide (h.id = d))) := by
   refine List.map_congr_left fun z hz => ?_
   unfold zby
   rw [List.filter_filter]
   congr 2
   funext x
   by_cases q : x.id = z
   ·rw [decide_eq_true q, decide_eq_false (by rintro rfl; exact g0.1 (q ▸ hz))]; rfl
   ·rw [decide_eq_false q]; rfl
  have hl := zm7 (fun h => decide (h.id = d)) hs
  rw [List.map_cons, List.sum_cons, e, ih, hl]
  rfl
theorem ztd (xs : List Note) : (idsN xs).Nodup := (zbe xs).imp fun h e => by subst e; exact za1.irr _ h
theorem sum_take {hs : List Hit} {ids : List Bs} {i : Nat} (h : i < ids.length) : ((ids.take (i + 1)).map (zby hs)).sum = ((ids.take i).map (zby hs)).sum + zby hs ids[i] := by
 rw [List.take_succ_eq_append_getElem h, List.map_append, List.sum_append]
 simp
end V
open Go.RowKit
theorem cnt_le (l : List V.Comp) (hs : List V.Hit) : ∀ k, V.yo l hs k ≤ k * hs.length
 | 0 => by simp [V.yo]
 | k + 1 => by
  have ih := cnt_le l hs k
  have h1 : ∀ c, (V.ug l hs c).length ≤ hs.length := fun c => List.length_filter_le _ _
  rw [V.yo, Nat.add_mul]
  split
  ·split
   ·have := h1 k; omega
   ·omega
  ·omega
theorem zwy {P : Prop} (h : P := by
 clear HSTEP hul
 generalize V.yo l hs k = q at *
 go_wp2_with fail
 go_loopw [10] (fun jv wx => ∃ j : Nat, j ≤ us7.length /\ jv = .int .i64 j /\ Below w7.heap.size w7 wx) (fun jv _ => us7.length - (intOf jv).toNat)
 case atStart => exact ⟨0, Nat.zero_le _, rfl, zwj _ _⟩
 case round =>
  obtain ⟨j, hj, rfl, hbj⟩ := hrel
  have HBJ := zwg hbj
  clear hbj
  by_cases hjl : j < us7.length
  ·obtain ⟨g7, o7, ha7, hg7b, hcell⟩ := GSl.at (HL7.out.1.below HBJ.out) j hjl
   subst ha7
   have hjc := hcell 0 _ rfl
   rw [Nat.add_zero] at hjc
   have hge : ¬ us7[j].1.comp < (k : Int) := by
    have := HGE.out us7[j] (List.getElem_mem hjl)
    omega
   have j1 : (0 : Int) ≤ (j : Int) := by omega
   have j2 : (j : Int) < (us7.length : Int) := by omega
   clear hcell
   generalize us7[j].1.comp = cc at *
   go_wp2
   go_roundw
   case rel => exact ⟨j + 1, by omega, by go_num, HBJ.out⟩
   case measure => simp [intOf]; omega
  ·obtain rfl : j = us7.length := by omega
   have HBE := zwg (HBX7.out.trans (HBJ.out.mono HBX7.out.size))
   go_wp2
   go_roundw
   case rel => exact ⟨k + 1, HLT.out, by go_num, by rw [HNX.out], HBE.out⟩
   case measure => have := HLT.out; simp [intOf]; omega) : P := h
theorem zgv (a : Option Addr) (m cap : Nat) (w : World) (hm : zj w) (ht : Nums w a m) (k1 : m ≤ cap) :
  Calls Tryz.prog 10 #[.slice a m cap] w fun e w' => e = .returned (.bool true) /\ Below w.heap.size w w' := by
 have HM := zwg hm
 have HT := zwg (And.intro ht k1)
 clear hm ht k1
 go_enter Tryz.func10, Tryz.ntmps10
 go_wp2_with fail
 refine (zcu a m cap 200 w HT.out.1 HT.out.2 (by decide)).mono ?_
 rintro e w1 ⟨rfl, ht1, hb1, k2⟩
 have HT1 := zwg ht1
 have HB1 := zwg hb1
 have k3 := zwg k2
 clear ht1 hb1 k2
 go_wp2_with fail
 refine (zj5 w.heap.size 0 7 w1 HT1.out (by decide) (by decide)).mono ?_
 rintro e w2 ⟨x, r, v, l, k4, k5, hr9, hl, k6, rfl, g4, k7, h6⟩
 have HX1 := zwg k4
 have v3 := zwg k5
 have HR9 := zwg hr9
 have h1 := zwg hl
 have HTO := zwg k6
 have v4 := zwg g4
 have k8 := zwg k7
 have v6 := zwg h6
 have v8 := zwg (HM.out.below HB1.out)
 have k9 := zwg (v8.out.tape HT1.out h6)
 obtain ⟨va, vc, v9, k0⟩ := g4.comps
 subst v9
 obtain ⟨ic, h7⟩ : ∃ ic, ic = (icells (dig1 x) r (.slice va l.length vc)) := ⟨_, rfl⟩
 have g2 := zwg h7
 rw [← h7]
 clear k4 k5 hr9 hl k6 g4 k7 h6 k0 h7
 go_wp2_with fail
 refine (zcf w.heap.size (0 + 3 + 6 * 7) 6 w2 k9.out k8.out (by decide) (by decide)).mono ?_
 rintro e w3 ⟨nv, us, rfl, h8, g7, q0, hg3⟩
 have z8 := zwg h8
 have z9 := zwg g7
 have y0 := zwg q0
 have y1 := zwg (k9.out.tape k8.out hg3)
 have h9 := zwg (v4.out.kept hg3 (fun g e => by cases e; exact k3.out))
 have HB3 := zwg (HB1.out.trans ((qi (v6.out.trans hg3) (zwi _) (Nat.le_of_lt k3.out)).mono (zwi _)))
 have HN3 := zwg g7.notes
 obtain ⟨na, nc, y2⟩ := g7.row.slice
 subst y2
 have j0 := ql (d := dig1 x) rfl r (.slice va l.length vc)
 have HIN : Hid ((Tryz.prog.info? 29).map (·.size) = some ic.size) := zwg (by rw [g2.out, yw, j0])
 have y3 : Hid (ic.size = 34) := zwg (by rw [g2.out, j0])
 have HS : Hid ((icells zu 0 (.slice none 0 0)).size = ic.size) := zwg (by rw [y3.out, ql rfl])
 have HO : Hid (ic.all (·.oneCell') = true) := zwg (by rw [g2.out]; exact zbk h9.out.comps.one)
 have j1 : (w3.alloc (.cells (icells zu 0 (.slice none 0 0)) 29)).heap[w3.heap.size]? = some (.cells (icells zu 0 (.slice none 0 0)) 29 (0, 0)) := heap_alloc_new w3 _
 have g0 : Below w3.heap.size w3 ((w3.alloc (.cells (icells zu 0 (.slice none 0 0)) 29)).setRow w3.heap.size ic) :=
  ((zwj _ w3).alloc (zwi _) _).trans (qi (qc _ _ _) (zwi _) (by simp))
 obtain ⟨W4, g8⟩ : ∃ W4, W4 = (w3.alloc (.cells (icells zu 0 (.slice none 0 0)) 29)).setRow w3.heap.size ic := ⟨_, rfl⟩
 rw [← g8] at g0
 have y4 := zwg g8
 have z7 := zwg g0
 have HB4 := zwh HB3 g0
 have q1 := zwg (y1.out.below g0)
 have q2 := zwg (h9.out.comps.below g0)
 have HN4 := zwg (HN3.out.below g0)
 have G0 := zwg (y0.out.below g0)
 have HG4 : Hid (W4.heap[w3.heap.size]? = some (.cells ic 29 (0, 0))) := zwg (by rw [g8]; exact setRow_heap _ _ _ _ _ _ j1)
 have y5 : Hid (W4.heap.size = w3.heap.size + 1) := zwg (by rw [g8]; simp)
 have y6 := zwg j1
 have q3 : Hid ((us.map (·.nv)).length ≤ 6) := zwg (by rw [List.length_map]; exact h8)
 have q4 : Hid (us.length = (us.map (·.nv)).length) := zwg (by rw [List.length_map])
 rw [q4.out] at HN4
 rw [q4.out]
 have z6 : Hid (∀ y ∈ us.map (·.nv), V.MadeV y.n.adv) := zwg (fun y hy => by
   obtain ⟨p, hp, rfl⟩ := List.mem_map.1 hy
   exact (g7.each p hp).made)
 have h2 : Hid ((dig1 x).length = 32) := zwg rfl
 have j2 : Hid (∀ n ∈ dig1 (x : Int), (Lit.int .u8 n).wf = true) := zwg (zm9 x v3.out)
 generalize us.map (·.nv) = xs at *
 clear h8 g7 q0 hg3 j0 j1 g0 g8
 have g5 : Hid (l.length ≤ 12 /\ xs.length ≤ 8) := zwg ⟨by have := h1.out; omega, by have := q3.out; omega⟩
 have HXl : Hid (w3.heap.size < W4.heap.size) := zwg (by rw [y5.out]; omega)
 have q5 : Hid (ic[33]? = some (.slice va l.length vc)) := zwg (by rw [g2.out]; exact zex h2.out r _)
 go_wp2_with (first
   | (rw [zcv]; refine wpList_store_row rfl _ _ _ rfl w3.heap.size ic rfl rfl 29 _ y6.out HIN.out HS.out HO.out ?_; rw [← y4.out])
   | (refine zet rfl (.agg ic) (zdo (ty := 29) rfl rfl (zc5 HG4.out Tryz.underlying29 rfl HIN.out)) ?_)
   | fail)
 have j3 := zbc (dig1 x) r (.slice va l.length vc) l (.slice na xs.length nc) xs _ q1.out h2.out j2.out q2.out (by have := g5.out.1; omega) HN4.out (by have := g5.out.2; omega)
 rw [← g2.out] at j3
 refine j3.mono ?_
 clear j3
 rintro e w5 ⟨v5, us5, rfl, q6, q7, hb5⟩
 obtain ⟨hs, h3⟩ : ∃ hs, hs = V.kx (V.jo (dig1 x) r l) (xs.map (·.n)) l := ⟨_, rfl⟩
 have j4 := zwg h3
 have j5 : Hid (∀ h ∈ hs, 0 ≤ h.comp /\ h.comp < l.length) := zwg (fun h hh => (zi3 (by rw [← j4.out]; exact hh)).2)
 have q8 : us5.length = hs.length := by rw [h3, ← q7, List.length_map]
 have hsl : hs.length ≤ 42 := by
  rw [h3]
  refine Nat.le_trans zev ?_
  rw [List.length_map]
  exact Nat.mul_le_mul h1.out q3.out
 have v1 : Hid (V.yo l hs l.length = us5.length) := zwg (by rw [q8]; exact V.zt8 HTO.out j5.out)
 have y7 : Hid (∀ k, k ≤ 8 -> V.yo l hs k ≤ 336) := zwg (fun k hk => Nat.le_trans (cnt_le l hs k) (Nat.mul_le_mul hk hsl))
 have v2 : Hid (V.ug l hs (-1) = []) := zwg (V.zuz HTO.out j5.out)
 have y8 : Hid (∀ k : Int, ∀ h ∈ V.ug l hs k, k ≤ h.comp) := zwg (fun k h hh => (V.zqc HTO.out j5.out h hh).2)
 have HUL : Hid (∀ k : Int, (V.ug l hs k).length ≤ 42) := zwg (fun k => Nat.le_trans (List.length_filter_le _ _) hsl)
 obtain ⟨a5, c5, y9⟩ := q6.row.slice
 subst y9
 have HB5 := zwh HB4 hb5
 have j6 := zwg (q1.out.below hb5)
 have j7 := zwg (q2.out.below hb5)
 have HN5 := zwg (HN4.out.below hb5)
 have z0 := zwg ((hb5.block w3.heap.size HXl.out).trans HG4.out)
 have q9 : Hid (w3.heap.size < w5.heap.size) := zwg (Nat.lt_of_lt_of_le HXl.out hb5.size)
 clear q6 q7 hb5 h3 q8 hsl
 go_wp2_with fail
 go_loopw [7, 8] (fun cv iv wx => ∃ k : Nat, k ≤ l.length /\ iv = .int .i64 k /\ cv = .int .i64 ((V.yo l hs k : Nat) : Int) /\ Below w5.heap.size w5 wx) (fun _ iv _ => l.length - (intOf iv).toNat)
 case atStart => exact ⟨0, Nat.zero_le _, rfl, rfl, zwj _ _⟩
 case round =>
  obtain ⟨k, hk, rfl, rfl, h4⟩ := hrel
  have HBX := zwg h4
  have h5 := zwg ((h4.block w3.heap.size q9.out).trans z0.out)
  have z1 : Hid (w3.heap.size < wr.heap.size) := zwg (Nat.lt_of_lt_of_le q9.out h4.size)
  have g9 : wr.cell? ⟨w3.heap.size, 33, none⟩ = some (.slice va l.length vc) := by rw [cell_of_row wr w3.heap.size 33 _ _ _ h5.out]; exact q5.out
  clear h4
  by_cases hlt : k < l.length
  ·have HLT := zwg hlt
   replace hlt := hlt
   have G1 : k < 100 := by have := h1.out; omega
   obtain ⟨z2, b, off, hva, z3, g4⟩ := (j7.out.below HBX.out).at k hlt
   subst hva
   have j8 := zwg g4
   have HSTEP := zwg (V.zfn (hs := hs) hlt)
   have G2 := y7.out k (by have := h1.out; omega)
   clear z2 g4 z3
   obtain ⟨ck, v0⟩ : ∃ ck, ck = l[k]'hlt := ⟨_, rfl⟩
   rw [← v0] at j8 HSTEP
   clear v0
   go_wp2_with (first
     | (refine zet rfl (.agg ic) (zdo (ty := 29) rfl rfl (zc5 h5.out Tryz.underlying29 rfl HIN.out)) ?_)
     | fail)
   have g3 := zhe (dig1 x) r _ l (.slice na xs.length nc) xs (k : Int) _ (j6.out.below HBX.out) h2.out j2.out (j7.out.below HBX.out) (by have := g5.out.1; omega) (HN5.out.below HBX.out) (by have := g5.out.2; omega)
   rw [← g2.out] at g3
   refine g3.mono ?_
   clear g3 g9
   rintro e w7 ⟨v7, us7, rfl, g6, g1, hb7⟩
   rw [← j4.out] at g1
   obtain ⟨a7, c7, j9⟩ := g6.1.slice
   subst j9
   have HL7 := zwg g6
   have hul : us7.length = (V.ug l hs k).length := by rw [← g1, List.length_map]
   have G3 : us7.length ≤ 42 := by rw [hul]; exact HUL.out k
   have HGE : Hid (∀ p ∈ us7, (k : Int) ≤ p.1.comp) := zwg (fun p hp => y8.out k p.1 (by rw [← g1]; exact List.mem_map_of_mem hp))
   have HBX7 := zwh HBX hb7
   have hg7 := (hb7.block w3.heap.size z1.out).trans h5.out
   have g9 : w7.cell? ⟨w3.heap.size, 33, none⟩ = some (.slice (some ⟨b, off, none⟩) l.length vc) := by rw [cell_of_row w7 w3.heap.size 33 _ _ _ hg7]; exact q5.out
   have z4 := zk j8.out hb7 0 _ rfl
   rw [Nat.add_zero] at z4
   have i1 : (0 : Int) ≤ (k : Int) := by omega
   have i2 : (k : Int) < (l.length : Int) := by omega
   clear g6 g1 hb7 hg7
   rcases hp : (ck.par == -1) with _ | _
   ·have HNX : Hid (V.yo l hs (k + 1) = V.yo l hs k) := zwg (by rw [HSTEP.out, if_neg (by simpa using hp)]; rfl)
    exact zwy
   ·have HNX : Hid (((V.yo l hs (k + 1) : Nat) : Int) = (V.yo l hs k : Int) + (us7.length : Int)) := zwg (by rw [HSTEP.out, if_pos (by simpa using hp), ← hul]; omega)
    exact zwy
  ·obtain rfl : k = l.length := by omega
   rw [v1.out]
   go_wp2_with (first
     | (refine zet rfl (.agg ic) (zdo (ty := 29) rfl rfl (zc5 h5.out Tryz.underlying29 rfl HIN.out)) ?_)
     | fail)
   have g3 := zhe (dig1 x) r _ l (.slice na xs.length nc) xs (-1) _ (j6.out.below HBX.out) h2.out j2.out (j7.out.below HBX.out) (by have := g5.out.1; omega) (HN5.out.below HBX.out) (by have := g5.out.2; omega)
   rw [← g2.out] at g3
   refine g3.mono ?_
   clear g3 g9
   rintro e w7 ⟨v7, us7, rfl, g6, g1, hb7⟩
   rw [← j4.out, v2.out] at g1
   have h0 : us7 = [] := List.map_eq_nil_iff.1 g1
   subst h0
   obtain ⟨a7, c7, j9⟩ := g6.1.slice
   subst j9
   have HBX7 := zwg (HB5.out.trans ((HBX.out.trans (hb7.mono HBX.out.size)).mono HB5.out.size))
   have z5 := zwg ((j6.out.below HBX.out).below hb7)
   clear g6 g1 hb7
   go_wp2_with fail
   refine (ji _ z5.out).mono ?_
   rintro e w8 ⟨rfl, hb8⟩
   have HE := zwh HBX7 hb8
   clear hb8
   go_wp2
   go_ret
   exact ⟨rfl, HE.out⟩
end Go.Proofs.YtbikeahmldobkaaGreatDoor
