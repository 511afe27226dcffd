/-
  Lemmas for the law.
-/
import Derived.Test.YtbikeahmldobkaaGreatDoorC42x35
import Derived.Test.YtbikeahmldobkaaGreatDoorC42x36
import Derived.Test.YtbikeahmldobkaaGreatDoorC42x37
import Derived.Test.YtbikeahmldobkaaGreatDoorC42x09
import Derived.Test.YtbikeahmldobkaaGreatDoorC42x38
import Derived.Test.YtbikeahmldobkaaGreatDoorC42x34
import Derived.Test.YtbikeahmldobkaaGreatDoorC42x30
import Derived.Test.YtbikeahmldobkaaGreatDoorC42x08
import Derived.Test.YtbikeahmldobkaaGreatDoorC42x21
import Derived.Test.YtbikeahmldobkaaGreatDoorC42x24
import Derived.Test.YtbikeahmldobkaaGreatDoorC42x29
import Derived.Test.YtbikeahmldobkaaGreatDoorC42x44
import Derived.Test.YtbikeahmldobkaaGreatDoorC42x32
import Derived.OrdersHeld
import Derived.ProofKit
import Derived.Deep.Strs
import Derived.DeepKeys5
set_option linter.all false
set_option maxRecDepth 100000
set_option maxHeartbeats 6400000
namespace Go.Proofs.YtbikeahmldobkaaGreatDoor
open Go.RowKit
theorem ZRow.weaken {w : World} {N M : Nat} {v : Value} {l : List Int} (h : ZRow w N v l) (hM : M ≤ N) : ZRow w M v l := by
 obtain ⟨h1, h2⟩ := h
 refine ⟨h1, ?_⟩
 rcases h2 with h2 | ⟨g, cap, cur, e, hb, rest⟩
 ·exact .inl h2
 ·exact .inr ⟨g, cap, cur, e, by omega, rest⟩
def zva (l : List V.Comp) (ok : Bool) (i : Int) (w : World) (e : Ending) (w' : World) : Prop := ∃ v, e = .returned v /\ ZRow w' w.heap.size v (if ok = true /\ 0 ≤ i /\ i < l.length then (V.anc l i).reverse else []) /\ Below w.heap.size w w'
theorem zp5 (d : List Int) (time : Int) (v : Value) (l : List V.Comp) (i : Int) (w : World) (hm : zk w) (hd : d.length = 32) (h0 : ∀ n ∈ d, (Lit.int .u8 n).wf = true) (hv : Comps w v l) (hl : l.length ≤ 100000) :
  Calls Tryz.prog 45 #[.agg (icells d time v), .int .i64 i] w (zva l (V.qn d time l) i w) := by
 have HM := zv2 hm
 have HL := zv2 hv
 have HD := zv2 hd
 have h9 := zv2 h0
 have h2 := zau hd time v
 have j0 := zv2 (qo hd time v)
 obtain ⟨va, vc, rfl, g0⟩ := hv
 have HB0 := zv2 ((zv5 w.heap.size w).alloc (zv4 _) (.cells (icells d time (.slice va l.length vc)) 29))
 clear hd h0 g0 hm
 go_enter Tryz.func45, Tryz.ntmps45
 go_wp2_with (first | (refine wpList_load_row rfl _ _ rfl w.heap.size rfl _ (icells d time (.slice va l.length vc)) (0, 0) _ (heap_alloc_new w _) Tryz.underlying29 rfl (by rw [xt, j0.out]) ?_) | fail)
 refine (zga d time (.slice va l.length vc) l _ (HM.out.below HB0.out) HD.out h9.out (HL.out.below (HB0.out.mono (zv4 _))) (by unfold maxLen; omega)).mono ?_
 rintro e w1 ⟨rfl, hb1⟩
 have HB1 := zv3 HB0 hb1
 have hg1 : w1.heap[w.heap.size]? = some (.cells (icells d time (.slice va l.length vc)) 29 (0, 0)) := (hb1.block _ (by simp)).trans (heap_alloc_new w _)
 have g4 : w.heap.size < w1.heap.size := Nat.lt_of_lt_of_le (by simp) hb1.size
 have g5 : w1.cell? ⟨w.heap.size, 33, none⟩ = some (.slice va l.length vc) := by rw [cell_of_row w1 w.heap.size 33 _ _ _ hg1]; exact h2
 have j1 : Hid (V.qn d time l = true -> V.qb l l.length = true) := zv2 (fun h => by unfold V.qn at h; exact (Bool.and_eq_true_iff.1 h).2)
 clear hb1 hg1 h2
 generalize V.qn d time l = ok at *
 rcases ok with _ | _
 ·go_wp2
  go_ret
  refine ⟨_, rfl, ?_, HB1.out⟩
  rw [if_neg (by simp)]
  exact ZRow.nil _ _
 ·have HO := zv2 (j1.out rfl)
  by_cases hi0 : i < 0
  ·go_wp2
   go_ret
   refine ⟨_, rfl, ?_, HB1.out⟩
   rw [if_neg (by omega)]
   exact ZRow.nil _ _
  ·by_cases hil : (l.length : Int) ≤ i
   ·go_wp2
    go_ret
    refine ⟨_, rfl, ?_, HB1.out⟩
    rw [if_neg (by omega)]
    exact ZRow.nil _ _
   ·have HIN : Hid (0 ≤ i /\ i < (l.length : Int)) := zv2 ⟨by omega, by omega⟩
    have j2 := zv2 (V.zib HO.out i (by omega))
    go_wp2
    clear hi0 hil
    go_loopw [5, 6] (fun ov kv wr => ∃ (pre : List Int) (kk : Int), kv = .int .i64 kk /\ -1 ≤ kk /\ kk < l.length /\ V.anc l i = pre ++ V.anc l kk /\ ZRow wr w1.heap.size ov pre.reverse /\ Below w1.heap.size w1 wr) (fun _ kv _ => (intOf kv + 1).toNat)
    case atStart => exact ⟨[], i, rfl, by have := HIN.out; omega, HIN.out.2, rfl, ZRow.nil _ _, zv5 _ _⟩
    case round =>
     obtain ⟨pre, kk, rfl, k1, hk2, g1, h3, g2⟩ := hrel
     have g6 := zv2 g1
     have j9 : pre.length ≤ l.length := by have h1 := j2.out; rw [g1, List.length_append] at h1; omega
     have h7 := (g2.cell (p := ⟨w.heap.size, 33, none⟩) g4).trans g5
     have g3 := zv2 g2
     have HBW := zv3 HB1 g2
     have h4 := zv2 h3
     obtain ⟨pa, pc, j3, g0⟩ := h3.zs
     subst j3
     clear g0 g2 g1
     by_cases hk0 : 0 ≤ kk
     ·obtain ⟨m, hm⟩ := Int.eq_ofNat_of_zero_le hk0
      have j4 : kk = (m : Int) := hm
      clear hm
      subst j4
      have g7 : m < l.length := by omega
      obtain ⟨_, b, off, rfl, g8, h5⟩ := HL.out.at m g7
      have HNX : Hid (V.anc l i = (pre ++ [(m : Int)]) ++ V.anc l l[m].par) := zv2 (by rw [g6.out, V.zf4 HO.out g7]; simp)
      have g9 := V.ziy HO.out g7
      have j5 := g9.1
      have hp2 := g9.2
      have hc := zi h5 HBW.out 0 _ rfl
      rw [Nat.add_zero] at hc
      clear h5 g9
      generalize l[m] = x at *
      have k2 : (0 : Int) ≤ (m : Int) := by omega
      have k3 : (m : Int) < (l.length : Int) := by omega
      have j6 : Hid (ZRow (wr.alloc (.cells #[.int .i64 (m : Int)] 3)) w1.heap.size (.slice (some ⟨wr.heap.size, 0, none⟩) 1 1) [(m : Int)]) := zv2 (World.ownsRow_lit wr #[.int .i64 (m : Int)] 1 g3.out.size (by decide) rfl)
      have HB2 : Hid (Below w1.heap.size w1 (wr.alloc (.cells #[.int .i64 (m : Int)] 3))) := zv2 (g3.out.alloc g3.out.size _)
      have j7 := zv2 (h4.out.zs.below ((zv5 _ wr).alloc (zv4 _) (.cells #[.int .i64 (m : Int)] 3)))
      have k4 : w1.heap.size ≤ wr.heap.size := g3.out.size
      go_wp2_with (first | (refine zqi rfl _ _ rfl w1.heap.size (.slice (some ⟨wr.heap.size, 0, none⟩) 1 1) [(m : Int)] rfl j6.out _ pre.reverse rfl j7.out (by simp; omega) HB2.out.size ?_
                            intro v' w3 h6 hg3
                            have hb3 : Below w1.heap.size w1 w3 := HB2.out.trans ⟨hg3.os, hg3.tape, hg3.output, hg3.size, fun q hq => hg3.block q (Nat.lt_of_lt_of_le hq HB2.out.size) (fun e => by simp [Value.ownBlock] at e; omega)⟩
                            have j8 := zv2 h6
                            have HB3 := zv2 hb3
                            have k0 := (hb3.cell (p := ⟨w.heap.size, 33, none⟩) g4).trans g5
                            have k5 : w3.cell? ⟨b, off + m * 36, none⟩ = some (.int .i64 x.par) := ((HB1.out.trans (hb3.mono HB1.out.size)).cell (p := ⟨b, off + m * 36, none⟩) g8).trans ((HBW.out.cell (p := ⟨b, off + m * 36, none⟩) g8).symm.trans hc)
                            clear h6 hg3 hb3 h7 hc) | fail)
      go_roundw
      case rel => exact ⟨pre ++ [(m : Int)], x.par, rfl, j5, by omega, HNX.out, by rw [List.reverse_append]; exact j8.out, HB3.out⟩
      case measure => simp [intOf]; omega
     ·have h8 : Hid (V.anc l i = pre) := zv2 (by rw [g6.out, V.zm9 (by omega), List.append_nil])
      go_wp2
      go_ret
      refine ⟨_, rfl, ?_, HBW.out⟩
      rw [if_pos ⟨rfl, HIN.out⟩, h8.out]
      have hz := h4.out.weaken (M := w.heap.size) (Nat.le_of_lt g4)
      rw [List.length_reverse] at hz
      exact hz
namespace V
def dupP {α : Type} (P : List Int) (c : Int) (p : α) : List α := (P.filter fun x => decide (x = c)).map fun _ => p
theorem zvf {α : Type} {P : List Int} {c : Int} {p : α} {m : Nat} (h : m < P.length) : dupP (P.take (m + 1)) c p = dupP (P.take m) c p ++ if P[m] = c then [p] else [] := by
 unfold dupP
 rw [List.take_succ_eq_append_getElem h, List.filter_append, List.map_append]
 congr 1
 by_cases e : P[m] = c
 ·rw [if_pos e, List.filter_cons, if_pos (decide_eq_true e)]; rfl
 ·rw [if_neg e, List.filter_cons, if_neg (by simpa using e)]; rfl
theorem zpt {α : Type} (P : List Int) (c : Int) (p : α) : (dupP P c p).length ≤ P.length := by
 unfold dupP
 rw [List.length_map]
 exact List.length_filter_le _ _
end V
def outK (ok : Bool) (l : List V.Comp) (c : Int) (us : List (V.Hit × Sd)) (k : Nat) : List (V.Hit × Sd) := (us.take k).flatMap fun p => V.dupP (V.pathOf ok l p.1.comp) c p
theorem zlf {ok : Bool} {l : List V.Comp} {c : Int} {us : List (V.Hit × Sd)} {k : Nat} (h : k < us.length) : outK ok l c us (k + 1) = outK ok l c us k ++ V.dupP (V.pathOf ok l us[k].1.comp) c us[k] := by
 unfold outK
 rw [List.take_succ_eq_append_getElem h, List.flatMap_append]
 congr 1
 simp
theorem zoq {ok : Bool} {l : List V.Comp} {c : Int} {us : List (V.Hit × Sd)} (ho : ok = true -> V.qb l l.length = true) : ∀ {k : Nat}, k ≤ us.length -> (outK ok l c us k).length ≤ k * l.length
 | 0, _ => by simp [outK]
 | k + 1, h => by
  have ih := zoq (c := c) (us := us) ho (k := k) (by omega)
  rw [zlf (by omega), List.length_append, Nat.succ_mul]
  have h1 := V.zpt (V.pathOf ok l us[k].1.comp) c us[k]
  have h2 := zki (i := us[k].1.comp) ho
  omega
theorem zsu {ok : Bool} {ys : List V.Note} {l : List V.Comp} (c : Int) {us : List (V.Hit × Sd)} (ho : ok = true -> V.qb l l.length = true) (h : us.map (·.1) = V.xd ok ys l) : (outK ok l c us us.length).map (·.1) = V.za6 l (V.xd ok ys l) c := by
 have e : (outK ok l c us us.length).map (·.1) = (us.map (·.1)).flatMap fun h => V.dupH (V.pathOf ok l h.comp) c h := by
  unfold outK V.dupH V.dupP
  rw [List.take_length, List.map_flatMap, List.flatMap_map]
  simp only [List.map_map]
  rfl
 rw [e, h]
 cases ok with
 | false => rfl
 | true =>
  have hc : ∀ h ∈ V.xd true ys l, 0 ≤ h.comp /\ h.comp < l.length := fun h hh => (zif hh).2
  rw [← V.under_of (ho rfl) hc c]
  unfold V.znu
  rw [List.flatMap_def, List.flatMap_def]
  congr 1
  refine List.map_congr_left fun x hx => ?_
  have := hc x hx
  unfold V.pathOf
  rw [if_pos ⟨rfl, this.1, this.2⟩]
theorem zr3 (d : List Int) (time : Int) (v : Value) (l : List V.Comp) (nv : Value) (xs : List NV) (c : Int) (w : World) (hm : zk w) (hd : d.length = 32) (j2 : ∀ n ∈ d, (Lit.int .u8 n).wf = true) (hv : Comps w v l) (hl : l.length ≤ 100) (hn : Notes w nv xs) (hx : xs.length ≤ 90) :
  Calls Tryz.prog 20 #[.agg (icells d time v), nv, .int .i64 c] w (zmb (V.qn d time l) (xs.map (·.n)) l c w) := by
 have HM := zv2 hm
 have HL := zv2 hv
 have HD := zv2 hd
 have j3 := zv2 j2
 have k9 := zv2 hn
 have HX := zv2 hx
 have j4 := zv2 (qo hd time v)
 have HO : Hid (V.qn d time l = true -> V.qb l l.length = true) := zv2 (fun h => by unfold V.qn at h; exact (Bool.and_eq_true_iff.1 h).2)
 obtain ⟨va, vc, rfl, j0⟩ := hv
 obtain ⟨W0, hW0⟩ : ∃ W0, W0 = w.alloc (.cells (icells d time (.slice va l.length vc)) 29) := ⟨_, rfl⟩
 have HB0 : Hid (Below w.heap.size w W0) := zv2 (by rw [hW0]; exact (zv5 w.heap.size w).alloc (zv4 _) _)
 have j5 : Hid (W0.heap[w.heap.size]? = some (.cells (icells d time (.slice va l.length vc)) 29 (0, 0))) := zv2 (by rw [hW0]; exact heap_alloc_new w _)
 have HZ0 : Hid (w.heap.size < W0.heap.size) := zv2 (by rw [hW0]; simp)
 have HW := zv2 hW0
 clear hd j2 j0 hm hn hx hW0
 go_enter Tryz.func20, Tryz.ntmps20
 go_wp2_with (first | (rw [← HW.out]; refine wpList_load_row rfl _ _ rfl w.heap.size rfl _ (icells d time (.slice va l.length vc)) (0, 0) _ j5.out Tryz.underlying29 rfl (by rw [xt, j4.out]) ?_) | fail)
 refine (zlp d time (.slice va l.length vc) l nv xs W0 (HM.out.below HB0.out) HD.out j3.out (HL.out.below HB0.out) hl (k9.out.below HB0.out) (by have := HX.out; omega)).mono ?_
 rintro e w1 ⟨v6, us, rfl, g0, g4, hb1⟩
 have q0 := zv2 g4
 have HB1 := zv3 HB0 hb1
 have HG1 := zv2 ((hb1.block _ HZ0.out).trans j5.out)
 have j6 : Hid (w.heap.size < w1.heap.size) := zv2 (Nat.lt_of_lt_of_le HZ0.out hb1.size)
 have HUS := zv2 g0.list
 have HUL : Hid (us.length ≤ 9000) := zv2 (by
   have h1 := zec (ok := V.qn d time l) (ys := xs.map (·.n)) (l := l)
   rw [← g4, List.length_map, List.length_map] at h1
   have h2 : l.length * xs.length ≤ 100 * 90 := Nat.mul_le_mul hl HX.out
   omega)
 obtain ⟨ha, v7, q1⟩ := g0.row.slice
 subst q1
 clear g0 g4 hb1
 obtain ⟨ok, hok⟩ : ∃ ok, ok = V.qn d time l := ⟨_, rfl⟩
 have HOK := zv2 hok
 rw [← hok] at HO
 clear hok
 go_wp2_with fail
 go_loopw [7, 9] (fun ov iv wx => ∃ k : Nat, k ≤ us.length /\ iv = .int .i64 k /\ HRow w1.heap.size wx ov (outK ok l c us k) /\ Below w1.heap.size w1 wx) (fun _ iv _ => us.length - (intOf iv).toNat)
 case atStart => exact ⟨0, Nat.zero_le _, rfl, HRow.nil _ _, zv5 _ _⟩
 case round =>
  obtain ⟨k, hk, rfl, g0, g3⟩ := hrel
  have k4 := zv2 g0
  have HBX := zv2 g3
  have HBW := zv3 HB1 g3
  obtain ⟨oa, oc, q2⟩ := g0.row.slice
  subst q2
  by_cases hlt : k < us.length
  ·obtain ⟨g, off, rfl, hg, hc⟩ := HUS.out.1.at k hlt
   obtain ⟨p, hp⟩ : ∃ p : V.Hit × Sd, p = us[k] := ⟨_, rfl⟩
   have g1 : wr.rangeAt g (off + k * 4) (hE p) := by rw [hp]; exact zi (fun i u hu => hc i u hu) g3
   have HST : Hid (outK ok l c us (k + 1) = outK ok l c us k ++ V.dupP (V.pathOf ok l p.1.comp) c p) := zv2 (by rw [zlf hlt, hp])
   have q3 : Hid (Digs wr p.2.v p.1.docs) := zv2 ((HUS.out.2 p (by rw [hp]; exact List.getElem_mem hlt)).below g3)
   have q4 : Hid ((outK ok l c us k).length ≤ 900000) := zv2 (by
     have h1 := zoq (c := c) HO.out hk
     have h2 : k * l.length ≤ 9000 * 100 := Nat.mul_le_mul (by have := HUL.out; omega) hl
     omega)
   have v9 := zv2 g1
   have k5 : Hid (w1.rangeAt g (off + k * 4) (hE p)) := zv2 (by rw [hp]; exact fun i u hu => hc i u hu)
   have j7 := zv2 hlt
   clear hp hc
   obtain ⟨⟨a0, b0, s0, dc⟩, ⟨sa, sn, sc⟩⟩ := p
   have q5 : Hid (wr.cell? ⟨g, off + k * 4, none⟩ = some (.int .i64 a0)) := zv2 (g1 0 _ rfl)
   have q6 := zv2 (HM.out.below HBW.out)
   have q7 := zv2 (HL.out.below HBW.out)
   have q8 := zv2 ((g3.block _ j6.out).trans HG1.out)
   have HXl : Hid (w.heap.size < wr.heap.size) := zv2 (Nat.lt_of_lt_of_le j6.out g3.size)
   have i1 : (0 : Int) ≤ (k : Int) := by omega
   have i2 : (k : Int) < (us.length : Int) := by omega
   have y0 : k < 9000 := by have := HUL.out; omega
   clear g1 g3 g0
   go_wp2_with fail
   refine wp_region_held_drew (S := (fun W' => Below wr.heap.size wr W')) (by kernel_rfl) ((zv5 _ wr).drew) (fun hHeld => ?_)
   refine tv 0 (.agg (icells d time (.slice va l.length vc))) ?_ ?_
   ·exact fun w' hSw => za1 (ty := 29) rfl rfl (zdj ((hSw.block w.heap.size HXl.out).trans q8.out) Tryz.underlying29 rfl (by rw [xt, j4.out]))
   refine tk 1 ?_
   refine tk 2 ?_
   refine tk 3 ?_
   refine tk 4 ?_
   refine tv 5 (.int .i64 a0) ?_ ?_
   ·exact fun w' hSw => za1 rfl rfl (by have hq := zg hSw q5.out; go_simp)
   refine rd 6 fun K hK => ?_
   go_simp
   refine (zp5 d time (.slice va l.length vc) l a0 _ (q6.out.below hHeld) HD.out j3.out (q7.out.below hHeld) (by omega)).mono ?_
   rintro e w6 ⟨pv, rfl, j8, j9⟩
   try dsimp only
   have h4 : Hid (ZRow w6 wr.heap.size pv (V.pathOf (V.qn d time l) l a0)) := zv2 j8
   refine hK.out _ _ ?_ (fun hHeld => nx ?_)
   ·(try dsimp only); exact hHeld.trans (j9.mono hHeld.size)
   clear hK K
   refine tk 7 ?_
   refine wpAnyH_done (by kernel_rfl) ?_ _
   have HB6 := zv2 hHeld
   clear hHeld j8 j9
   rw [← HOK.out] at h4
   have h5 : Hid ((V.pathOf ok l a0).length ≤ 100) := zv2 (Nat.le_trans (zki HO.out) hl)
   obtain ⟨P, hP⟩ : ∃ P, P = V.pathOf ok l a0 := ⟨_, rfl⟩
   try simp only at HST
   rw [← hP] at h4 HST h5
   obtain ⟨pa, pc, q9⟩ := h4.out.slice
   subst q9
   have j1 := zv2 (k4.out.below HB6.out)
   have k6 := zv2 (HBX.out.trans (HB6.out.mono HBX.out.size))
   have k7 := zv2 (q3.out.below HB6.out)
   clear hP
   generalize wr.heap.size = M6 at *
   go_wp2_with fail
   go_loopw [7, 11] (fun ov iv wx => ∃ m : Nat, m ≤ P.length /\ iv = .int .i64 m /\ HRow w1.heap.size wx ov (outK ok l c us k ++ V.dupP (P.take m) c (⟨a0, b0, s0, dc⟩, ⟨sa, sn, sc⟩)) /\ Below w1.heap.size w1 wx /\ ZRow wx M6 (.slice pa P.length pc) P /\ Digs wx (.slice sa sn sc) dc) (fun _ iv _ => P.length - (intOf iv).toNat)
   case atStart => exact ⟨0, Nat.zero_le _, rfl, by simpa [V.dupP] using j1.out, k6.out, h4.out, k7.out⟩
   case round =>
    obtain ⟨m, hm, rfl, g5, g6, h6, h7⟩ := hrel
    have g7 := zv2 g5
    have g9 := zv2 g6
    have h0 := zv2 h6
    have h8 := zv2 h7
    obtain ⟨oa2, oc2, k8⟩ := g5.row.slice
    subst k8
    clear g5 h6 h7
    by_cases hml : m < P.length
    ·obtain ⟨g2, off2, hpa, y1, p0⟩ := h0.out.zs.atU m hml
     subst hpa
     have k0 : Hid (V.dupP (P.take (m + 1)) c ((⟨a0, b0, s0, dc⟩ : V.Hit), (⟨sa, sn, sc⟩ : Sd)) = V.dupP (P.take m) c (⟨a0, b0, s0, dc⟩, ⟨sa, sn, sc⟩) ++ if P[m] = c then [(⟨a0, b0, s0, dc⟩, ⟨sa, sn, sc⟩)] else []) := zv2 (V.zvf hml)
     have v0 : Hid ((outK ok l c us k ++ V.dupP (P.take m) c ((⟨a0, b0, s0, dc⟩ : V.Hit), (⟨sa, sn, sc⟩ : Sd))).length ≤ 900100) := zv2 (by
       have h1 := V.zpt (P.take m) c ((⟨a0, b0, s0, dc⟩ : V.Hit), (⟨sa, sn, sc⟩ : Sd))
       have h2 := q4.out
       have h3 := h5.out
       rw [List.length_take] at h1
       rw [List.length_append]
       omega)
     have m1 : (0 : Int) ≤ (m : Int) := by omega
     have m2 : (m : Int) < (P.length : Int) := by omega
     have y2 : m < 200 := by have := h5.out; omega
     have g1 := zi k5.out g6
     have e0 : wr.cell? ⟨g, off + k * 4, none⟩ = some (.int .i64 a0) := g1 0 _ rfl
     have e1 : wr.cell? ⟨g, off + k * 4 + 1, none⟩ = some (.string ⟨b0.toArray⟩) := g1 1 _ rfl
     have e2 : wr.cell? ⟨g, off + k * 4 + 2, none⟩ = some (.int .i64 s0) := g1 2 _ rfl
     have e3 : wr.cell? ⟨g, off + k * 4 + 3, none⟩ = some (.slice sa sn sc) := g1 3 _ rfl
     clear g6 g1
     generalize P[m] = z at *
     by_cases hz : z = c
     ·have hb : (z == c) = true := by rw [beq_iff_eq]; exact hz
      have HDE : Hid (V.dupP (P.take (m + 1)) c ((⟨a0, b0, s0, dc⟩ : V.Hit), (⟨sa, sn, sc⟩ : Sd)) = V.dupP (P.take m) c (⟨a0, b0, s0, dc⟩, ⟨sa, sn, sc⟩) ++ [(⟨a0, b0, s0, dc⟩, ⟨sa, sn, sc⟩)]) := zv2 (by rw [k0.out, if_pos hz])
      have hb7 : Below wr.heap.size wr (wr.alloc (.cells #[.int .i64 a0, .string ⟨b0.toArray⟩, .int .i64 s0, .slice sa sn sc] 63)) := (zv5 _ wr).alloc (zv4 _) _
      have g8 := zv2 (g7.out.below hb7)
      have HB7 := zv3 g9 hb7
      have k1 := zv2 (h0.out.kept (zq hb7 none) (fun b e => by cases e))
      have k2 : Hid (Digs (wr.alloc (.cells #[.int .i64 a0, .string ⟨b0.toArray⟩, .int .i64 s0, .slice sa sn sc] 63)) (.slice sa sn sc) dc) := zv2 (h8.out.below hb7)
      have HNW := zv2 (znw wr ⟨a0, b0, s0, dc⟩ ⟨sa, sn, sc⟩)
      clear hb7 hz
      generalize hL : outK ok l c us k ++ V.dupP (P.take m) c (⟨a0, b0, s0, dc⟩, ⟨sa, sn, sc⟩) = L at *
      have v1 := zv2 hL
      clear hL
      go_wp2_with (first
        | (refine yv uz (by decide) zgb zly (by decide) rfl _ _ 35 rfl Tryz.underlying35 w1.heap.size (.slice oa2 L.length oc2) L rfl g8.out.row (.slice (some ⟨wr.heap.size, 0, none⟩) 1 1) [(⟨a0, b0, s0, dc⟩, ⟨sa, sn, sc⟩)] rfl (GSl.one (by simp) HNW.out) (by have := v0.out; simp; omega) HB7.out.size ?_
           intro v8 w8 hr8 hg8 ho8
           clear e0 e1 e2 e3 p0)
        | fail)
      have k3 := zv2 (g8.out.append (fun p hp => by
        rw [List.mem_singleton] at hp
        rw [hp]; exact k2.out) hr8 hg8)
      have v2 : Hid (Below w1.heap.size w1 w8) := zv2 (HB7.out.grown hg8 HB7.out.size (fun b hb => g8.out.row.block b hb))
      rw [← v1.out, List.append_assoc, ← HDE.out] at k3
      have v3 := zv2 (k1.out.kept hg8 (fun b e q => by
        obtain ⟨cs, h1⟩ := xl g8.out.row e
        obtain ⟨cs2, h2⟩ := k1.out.cellsAt b q
        rw [h1] at h2
        cases h2))
      have v4 : Hid (Digs w8 (.slice sa sn sc) dc) := zv2 (k2.out.grow hg8 (fun b e => by
        obtain ⟨cs, h1⟩ := xl g8.out.row e
        exact ⟨cs, _, _, h1, by decide⟩))
      clear hr8 hg8 ho8
      go_wp2
      go_roundw
      case rel => exact ⟨m + 1, by omega, by go_num, k3.out, v2.out, v3.out, v4.out⟩
      case measure => simp [intOf]; omega
     ·have hb : (z == c) = false := by rw [zv6]; exact hz
      have HDE : Hid (V.dupP (P.take (m + 1)) c ((⟨a0, b0, s0, dc⟩ : V.Hit), (⟨sa, sn, sc⟩ : Sd)) = V.dupP (P.take m) c (⟨a0, b0, s0, dc⟩, ⟨sa, sn, sc⟩)) := zv2 (by rw [k0.out, if_neg hz, List.append_nil])
      have h9 : Hid (HRow w1.heap.size wr (.slice oa2 (outK ok l c us k ++ V.dupP (P.take m) c ((⟨a0, b0, s0, dc⟩ : V.Hit), (⟨sa, sn, sc⟩ : Sd))).length oc2) (outK ok l c us k ++ V.dupP (P.take (m + 1)) c (⟨a0, b0, s0, dc⟩, ⟨sa, sn, sc⟩))) := zv2 (by rw [HDE.out]; exact g7.out)
      clear hz e0 e1 e2 e3
      go_wp2
      go_roundw
      case rel => exact ⟨m + 1, by omega, by go_num, h9.out, g9.out, h0.out, h8.out⟩
      case measure => simp [intOf]; omega
    ·obtain rfl : m = P.length := by omega
     have h9 : Hid (HRow w1.heap.size wr (.slice oa2 (outK ok l c us k ++ V.dupP (P.take P.length) c ((⟨a0, b0, s0, dc⟩ : V.Hit), (⟨sa, sn, sc⟩ : Sd))).length oc2) (outK ok l c us (k + 1))) := zv2 (by
       have := g7.out
       rw [List.take_length] at this ⊢
       rw [HST.out]; exact this)
     clear g6
     go_wp2
     go_roundw
     case rel => exact ⟨k + 1, by have := j7.out; omega, by go_num, h9.out, g9.out⟩
     case measure => have := j7.out; simp [intOf]; omega
  ·obtain rfl : k = us.length := by omega
   have v5 := zv2 g0.list
   clear g0 g3
   go_wp2
   go_ret
   exact ⟨_, _, rfl, v5.out, by rw [← HOK.out] ; exact zsu c HO.out (by rw [HOK.out]; exact q0.out), HBW.out⟩
open Go.RowKit
theorem zes (v v' : Value) (us us' : List (V.Hit × Sd)) (w : World) (hv : zfd w v us) (g6 : zfd w v' us') (he : us.map (·.1) = us'.map (·.1)) (hd : ∀ p ∈ us, p.1.docs.length ≤ 100000) (hl : us.length ≤ 1000000) :
  Calls Tryz.prog 16 #[v, v'] w fun e w' => e = .returned (.bool true) /\ Below w.heap.size w w' := by
 have HV := zv2 hv
 have g7 := zv2 g6
 have HE := zv2 he
 have h4 := zv2 hd
 have hn : us'.length = us.length := by rw [← List.length_map (f := (·.1)), ← he, List.length_map]
 obtain ⟨va, vc, rfl⟩ := hv.1.slice
 obtain ⟨va', vc', rfl⟩ := g6.1.slice
 rw [hn] at g7 ⊢
 have HN := zv2 hn
 clear hv g6 he hd hn
 go_enter Tryz.func16, Tryz.ntmps16
 go_wp2
 go_loopw [5] (fun jv wx => ∃ j : Nat, j ≤ us.length /\ jv = .int .i64 j /\ Below w.heap.size w wx) (fun jv _ => us.length - (intOf jv).toNat)
 case atStart => exact ⟨0, Nat.zero_le _, rfl, zv5 _ _⟩
 case round =>
  obtain ⟨j, hj, rfl, g1⟩ := hrel
  have HBX := zv2 g1
  by_cases hlt : j < us.length
  ·have g5 : j < us'.length := by rw [HN.out]; exact hlt
   obtain ⟨g, off, rfl, hg, hc⟩ := HV.out.1.at j hlt
   have g8 : zfd w (.slice va' us'.length vc') us' := by rw [HN.out]; exact g7.out
   obtain ⟨g2, off2, rfl, h8, g9⟩ := g8.1.at j g5
   obtain ⟨p, hp⟩ : ∃ p : V.Hit × Sd, p = us[j] := ⟨_, rfl⟩
   obtain ⟨p2, hp2⟩ : ∃ p : V.Hit × Sd, p = us'[j] := ⟨_, rfl⟩
   have he : p.1 = p2.1 := by
    have h1 := congrArg (fun l : List V.Hit => l[j]?) HE.out
    simp only [List.getElem?_map, List.getElem?_eq_getElem hlt, List.getElem?_eq_getElem g5, Option.map_some] at h1
    rw [hp, hp2]
    exact Option.some.inj h1
   have h0 : Digs wr p.2.v p.1.docs := (HV.out.2 p (by rw [hp]; exact List.getElem_mem hlt)).below g1
   have h2 : Digs wr p2.2.v p2.1.docs := (g7.out.2 p2 (by rw [hp2]; exact List.getElem_mem g5)).below g1
   have h3 : p.1.docs.length ≤ 100000 := h4.out p (by rw [hp]; exact List.getElem_mem hlt)
   have g3 : wr.rangeAt g (off + j * 4) (hE p) := by rw [hp]; exact zi (fun i u hu => hc i u hu) g1
   have g4 : wr.rangeAt g2 (off2 + j * 4) (hE p2) := by rw [hp2]; exact zi (fun i u hu => g9 i u hu) g1
   clear hp hp2 hc g9 g8
   obtain ⟨⟨c0, b0, s0, ds⟩, ⟨sa, sn, sc⟩⟩ := p
   obtain ⟨q1, ⟨ta, tn, tc⟩⟩ := p2
   subst he
   have h5 : Hid (Digs wr (.slice sa sn sc) ds) := zv2 h0
   have h6 : Hid (Digs wr (.slice ta tn tc) ds) := zv2 h2
   have h7 : Hid (ds.length ≤ 100000) := zv2 h3
   have a0 : wr.cell? ⟨g, off + j * 4, none⟩ = some (.int .i64 c0) := g3 0 _ rfl
   have a1 : wr.cell? ⟨g, off + j * 4 + 1, none⟩ = some (.string ⟨b0.toArray⟩) := g3 1 _ rfl
   have a2 : wr.cell? ⟨g, off + j * 4 + 2, none⟩ = some (.int .i64 s0) := g3 2 _ rfl
   have a3 : wr.cell? ⟨g, off + j * 4 + 3, none⟩ = some (.slice sa sn sc) := g3 3 _ rfl
   have e0 : wr.cell? ⟨g2, off2 + j * 4, none⟩ = some (.int .i64 c0) := g4 0 _ rfl
   have e1 : wr.cell? ⟨g2, off2 + j * 4 + 1, none⟩ = some (.string ⟨b0.toArray⟩) := g4 1 _ rfl
   have e2 : wr.cell? ⟨g2, off2 + j * 4 + 2, none⟩ = some (.int .i64 s0) := g4 2 _ rfl
   have e3 : wr.cell? ⟨g2, off2 + j * 4 + 3, none⟩ = some (.slice ta tn tc) := g4 3 _ rfl
   have i1 : (0 : Int) ≤ (j : Int) := by omega
   have i2 : (j : Int) < (us.length : Int) := by omega
   clear h0 h2 h3 g3 g4 g1
   go_wp2_with fail
   refine wp_region_held_drew (S := (fun W' => Below wr.heap.size wr W' /\ W'.cell? ⟨g, off + j * 4, none⟩ = some (.int .i64 c0) /\ W'.cell? ⟨g, off + j * 4 + 1, none⟩ = some (.string ⟨b0.toArray⟩) /\ W'.cell? ⟨g, off + j * 4 + 2, none⟩ = some (.int .i64 s0) /\ W'.cell? ⟨g, off + j * 4 + 3, none⟩ = some (.slice sa sn sc) /\ W'.cell? ⟨g2, off2 + j * 4, none⟩ = some (.int .i64 c0) /\ W'.cell? ⟨g2, off2 + j * 4 + 1, none⟩ = some (.string ⟨b0.toArray⟩) /\ W'.cell? ⟨g2, off2 + j * 4 + 2, none⟩ = some (.int .i64 s0) /\ W'.cell? ⟨g2, off2 + j * 4 + 3, none⟩ = some (.slice ta tn tc))) (by kernel_rfl) (by (try dsimp only); exact ⟨(zv5 _ _).drew, zg (zv5 _ _).drew a0, zg (zv5 _ _).drew a1, zg (zv5 _ _).drew a2, zg (zv5 _ _).drew a3, zg (zv5 _ _).drew e0, zg (zv5 _ _).drew e1, zg (zv5 _ _).drew e2, zg (zv5 _ _).drew e3⟩) (fun hHeld => ?_)
   refine tk 0 ?_
   refine tk 1 ?_
   refine tk 2 ?_
   refine tk 3 ?_
   refine tk 4 ?_
   refine tk 5 ?_
   refine tk 6 ?_
   refine tk 7 ?_
   refine rd 8 fun K hK => ?_
   go_simp
   refine (zom c0 ⟨b0.toArray⟩ s0 (.slice sa sn sc) (.slice ta tn tc) ds _ (h5.out.below (show Below wr.heap.size wr _ from (by first | assumption | exact And.left (by assumption)))) (h6.out.below (show Below wr.heap.size wr _ from (by first | assumption | exact And.left (by assumption)))) h7.out).mono ?_
   rintro e wq8 ⟨rfl, g0⟩
   try dsimp only
   refine hK.out _ _ ?_ (fun hHeld => nx ?_)
   ·(try dsimp only); go_split_ands; exact ⟨Below.trans (by assumption) (g0.mono (Below.size (by assumption))), zv8 g0, zv8 g0, zv8 g0, zv8 g0, zv8 g0, zv8 g0, zv8 g0, zv8 g0⟩
   clear hK K
   refine tk 9 ?_
   refine wpAnyH_done (by kernel_rfl) ?_ _
   have HB9 := zv2 (HBX.out.trans (hHeld.1.mono HBX.out.size))
   clear hHeld a0 a1 a2 a3 e0 e1 e2 e3
   go_wp2
   go_roundw
   case rel => exact ⟨j + 1, by omega, by go_num, HB9.out⟩
   case measure => simp [intOf]; omega
  ·obtain rfl : j = us.length := by omega
   clear g1
   go_wp2
   go_ret
   exact ⟨rfl, HBX.out⟩
open Go.RowKit
open Go.RowKit
open Go.ChangeShapes Go.WideShapes Go.ChangeAt Go.RowKit
open Go.ChangeShapes Go.WideShapes Go.ChangeAt Go.RowKit
open Go.ChangeShapes Go.WideShapes Go.ChangeAt Go.RowKit
open Go.ChangeShapes Go.WideShapes Go.ChangeAt Go.RowKit
open Go.ChangeShapes Go.WideShapes Go.ChangeAt Go.RowKit
open Go.RowKit
theorem zhc {ys : List V.Note} {l : List V.Comp} : ∀ {k : Nat}, ∀ h ∈ V.jr ys l k, h.docs.length ≤ ys.length
 | 0, h, hh => by simp [V.jr] at hh
 | k + 1, h, hh => by
  rw [V.jr, List.mem_append] at hh
  rcases hh with hh | hh
  ·exact zhc h hh
  ·split at hh
   ·rename_i c hc
    unfold V.zbm at hh
    obtain ⟨id, _, rfl⟩ := List.mem_map.1 hh
    unfold V.hitN
    refine Nat.le_trans (V.zmk _) ?_
    unfold V.selN
    exact List.length_filter_le _ _
   ·simp at hh
theorem zjt {ok : Bool} {ys : List V.Note} {l : List V.Comp} {h : V.Hit} (hh : h ∈ V.xd ok ys l) : h.docs.length ≤ ys.length := by
 unfold V.xd at hh
 split at hh
 ·exact zhc h hh
 ·simp at hh
theorem zvu {ok : Bool} {xs : List NV} {l : List V.Comp} {us : List (V.Hit × Sd)} (hx : xs.length ≤ 8) (h : us.map (·.1) = V.xd ok (xs.map (·.n)) l) (p : V.Hit × Sd) (hp : p ∈ us) : p.1.docs.length ≤ 100000 := by
 have h1 : p.1 ∈ V.xd ok (xs.map (·.n)) l := by rw [← h]; exact List.mem_map_of_mem hp
 have := zjt h1
 rw [List.length_map] at this
 omega
theorem zr0 {ok : Bool} {xs : List NV} {l : List V.Comp} {c : Int} {us : List (V.Hit × Sd)} (hx : xs.length ≤ 8) (h : us.map (·.1) = V.za6 l (V.xd ok (xs.map (·.n)) l) c) (p : V.Hit × Sd) (hp : p ∈ us) : p.1.docs.length ≤ 100000 := by
 have h1 : p.1 ∈ V.za6 l (V.xd ok (xs.map (·.n)) l) c := by rw [← h]; exact List.mem_map_of_mem hp
 unfold V.za6 at h1
 have := zjt (List.mem_filter.1 h1).1
 rw [List.length_map] at this
 omega
theorem zkx {ok : Bool} {xs : List NV} {l : List V.Comp} {us : List (V.Hit × Sd)} (hx : l.length ≤ 12 /\ xs.length ≤ 8) (h : us.map (·.1) = V.xd ok (xs.map (·.n)) l) : us.length ≤ 1000000 := by
 have h1 := zec (ok := ok) (ys := xs.map (·.n)) (l := l)
 rw [← h, List.length_map, List.length_map] at h1
 have h2 : l.length * xs.length ≤ 12 * 8 := Nat.mul_le_mul hx.1 hx.2
 omega
theorem zi6 {ok : Bool} {xs : List NV} {l : List V.Comp} {c : Int} {us : List (V.Hit × Sd)} (hx : l.length ≤ 12 /\ xs.length ≤ 8) (h : us.map (·.1) = V.za6 l (V.xd ok (xs.map (·.n)) l) c) : us.length ≤ 1000000 := by
 have h1 := zec (ok := ok) (ys := xs.map (·.n)) (l := l)
 have h3 : us.length ≤ (V.xd ok (xs.map (·.n)) l).length := by
  rw [← List.length_map (f := (·.1)), h]
  exact List.length_filter_le _ _
 rw [List.length_map] at h1
 have h2 : l.length * xs.length ≤ 12 * 8 := Nat.mul_le_mul hx.1 hx.2
 omega
def CInvPost (b k most : Nat) (w : World) (e : Ending) (w' : World) : Prop :=
 ∃ (x r : Nat) (v : Value) (l : List V.Comp), 1 ≤ x /\ x ≤ 6 /\ r < 9 /\ l.length ≤ most /\ V.qb l l.length = true /\ e = .returned (.agg (icells (dig1 x) r v)) /\ CRow w' w.heap.size v l /\ Tape w' b (k + 3 + 6 * most) /\ w.grownBy w' (some b)
def zu7 (b k most : Nat) (w : World) (e : Ending) (w' : World) : Prop :=
 ∃ (x r : Nat) (v : Value) (l : List V.Comp), 1 ≤ x /\ x ≤ 6 /\ r < 9 /\ l.length ≤ most /\ V.qb l l.length = true /\ e = .returned (.agg (icells (dig1 x) r v)) /\ CRow w' w.heap.size v l /\ Tape w' b (k + 3 + 6 * most) /\ w.grownBy w' (some b) /\ ∀ c ∈ l, c.name ∈ vj
theorem dig1_ok (x : Nat) (h : x ≤ 6) : ∀ n ∈ dig1 x, (Lit.int .u8 n).wf = true := fun n hn => by
 unfold dig1 at hn
 rcases List.mem_cons.1 hn with rfl | hn
 ·simp [Lit.wf, IntKind.min, IntKind.max, IntKind.signed, IntKind.bits]; omega
 ·rw [List.eq_of_mem_replicate hn]; decide
theorem zuf (b k most : Nat) (w : World) (h : Tape w b k) (hk : k ≤ 1000) (g4 : most ≤ 100) :
  Calls Tryz.prog 13 #[.pointer (some ⟨b, 0, none⟩), .int .i64 most] w (zu7 b k most w) := by
 have HT := zv2 h
 have hbw := h.lt
 clear h
 go_enter Tryz.func13, Tryz.ntmps13
 go_wp2_with fail
 rw [zdr]
 obtain ⟨W0, hW0⟩ : ∃ W0, W0 = w.alloc (.cells (icells zu 0 (.slice none 0 0)) 29) := ⟨_, rfl⟩
 have g6 : W0.heap[w.heap.size]? = some (.cells (icells zu 0 (.slice none 0 0)) 29 (0, 0)) := by rw [hW0]; exact heap_alloc_new w _
 have h6 : W0.heap.size = w.heap.size + 1 := by rw [hW0]; simp
 have g2 : Below w.heap.size w W0 := by rw [hW0]; exact (zv5 _ w).alloc (zv4 _) _
 rw [← hW0]
 clear hW0
 refine (zs6 b k _ (HT.out.below g2) (by omega)).mono ?_
 rintro e w1 ⟨x, h7, h8, rfl, ht1, hg1⟩
 have HG1 := zv2 (World.grownBy.trans (zq g2 (some b)) hg1)
 have HT1 := zv2 ht1
 have g7 : w.heap.size < w1.heap.size := Nat.lt_of_lt_of_le (by omega) hg1.size
 have h9 : Hid (w1.heap[w.heap.size]? = some (.cells (icells zu 0 (.slice none 0 0)) 29 (0, 0))) := zv2 ((hg1.block _ (by omega) (by simp; omega)).trans g6)
 clear g6 h6 g2 ht1 hg1
 obtain ⟨dc, g3⟩ : ∃ dc, dc = dcells (dig1 (x : Int)) := ⟨_, rfl⟩
 have j0 := zv2 g3
 rw [← g3]
 clear g3
 go_wp2_with fail
 refine (kh b (k + 1) 9 _ HT1.out (by omega) (by omega) (by omega)).mono ?_
 rintro e w2 ⟨r, hr, rfl, g8, g0⟩
 have j1 := zv2 (HG1.out.trans g0)
 have j2 := zv2 g8
 have j3 : w.heap.size < w2.heap.size := Nat.lt_of_lt_of_le g7 g0.size
 have j4 := zv2 ((g0.block _ g7 (by simp; omega)).trans h9.out)
 clear g8 g0
 go_wp2_with fail
 refine (zsj b (k + 1 + 1) most _ j2.out (by omega) g4).mono ?_
 rintro e w3 ⟨v, l, hl, g9, rfl, g1, h0, hg3, h1⟩
 have j5 := zv2 h1
 clear h1
 obtain ⟨va, vc, j6, g5⟩ := g1.comps
 subst j6
 clear g5
 have h2 : CRow w3 w.heap.size (.slice va l.length vc) l := g1.less (by omega)
 have j7 := zv2 (j1.out.trans hg3)
 have j8 := zv2 h0
 have h3 := zv2 ((hg3.block _ j3 (by simp; omega)).trans j4.out)
 have h4 := h2.comps.one
 have j9 : Hid (CRow (w3.setRow w.heap.size (icells (dig1 x) r (.slice va l.length vc))) w.heap.size (.slice va l.length vc) l) := zv2 (by
   have h5 : CRow w3 (w.heap.size + 1) (.slice va l.length vc) l := g1.less (by omega)
   exact (h5.kept (qc w3 w.heap.size _) (by intro g e; cases e; omega)).less (by omega))
 have HIN : Hid ((Tryz.prog.info? 29).map (·.size) = some (icells (dig1 x) r (.slice va l.length vc)).size) := zv2 (by rw [xt, qo rfl])
 have HS : Hid ((icells zu 0 (.slice none 0 0)).size = (icells (dig1 x) r (.slice va l.length vc)).size) := zv2 (by rw [qo rfl, qo rfl])
 have HO := zv2 (ze0 (d := dig1 x) (time := r) h4)
 have HTO := zv2 g9
 clear g1 h0 hg3 g9 h2 h4
 rw [j0.out]
 go_wp2_with (first
   | (refine wpList_buildTo rfl 29 _ rfl _ rfl (icells (dig1 x) r (.slice va l.length vc)) (by kernel_rfl) ?_)
   | (refine wpList_store_row rfl _ _ _ rfl w.heap.size (icells (dig1 x) r (.slice va l.length vc)) rfl rfl 29 _ h3.out HIN.out HS.out HO.out ?_)
   | fail)
 refine bodyPost_ret (v := .agg (icells (dig1 x) r (.slice va l.length vc))) ?_ rfl ⟨x, r, .slice va l.length vc, l, h7, h8, by omega, hl, HTO.out, rfl, j9.out, ?_, ?_, j5.out⟩
 ·exact qr Tryz.results13 rfl (run_loadVar_row _ w.heap.size _ _ _ (0, 0) _ (setRow_heap w3 w.heap.size _ _ _ _ h3.out) Tryz.underlying29 rfl HIN.out)
 ·exact (j8.out.grown (qc w3 w.heap.size _) (by simp; omega) (by intro b' e; cases e; omega)).le (by omega)
 ·exact zar j7.out (qc _ _ _) (zv4 _)
theorem cinv_any (b k most : Nat) (w : World) (h : Tape w b k) (hk : k ≤ 1000) (g0 : most ≤ 100) :
  Calls Tryz.prog 13 #[.pointer (some ⟨b, 0, none⟩), .int .i64 most] w (CInvPost b k most w) :=
 (zuf b k most w h hk g0).mono fun _ _ ⟨x, r, v, l, h1, h2, h3, h4, h5, h6, h7, h8, h9, _⟩ => ⟨x, r, v, l, h1, h2, h3, h4, h5, h6, h7, h8, h9⟩
end Go.Proofs.YtbikeahmldobkaaGreatDoor
