/-
  Lemmas for the law.
-/
import Derived.Test.YtbikeahmldobkaaGreatDoorC51x09
import Derived.Test.YtbikeahmldobkaaGreatDoorC51x29
import Derived.Test.YtbikeahmldobkaaGreatDoorC51x30
set_option linter.all false
set_option maxRecDepth 100000
set_option maxHeartbeats 6400000
namespace Go.Proofs.YtbikeahmldobkaaGreatDoor
open Go.RowKit
theorem zu0 {w w1 w2 : World} {row row2 : Option Nat} (h : w.grownBy w1 row) (h2 : w1.grownBy w2 row2) (hr : ∀ g, row2 = some g -> w.heap.size ≤ g) : w.grownBy w2 row :=
 ⟨h2.os.trans h.os, h2.tape.trans h.tape, h2.output.trans h.output, Nat.le_trans h.size h2.size, fun k hk g0 => (h2.block k (Nat.lt_of_lt_of_le hk h.size) (fun e => by have := hr k e.symm; omega)).trans (h.block k hk g0)⟩
theorem zkv {l : List V.Comp} {c : V.Comp} {j : Nat} (h : j < l.length) : decide (c ∈ l.take (j + 1)) = (decide (c ∈ l.take j) || decide (l[j] = c)) := by
 rw [List.take_succ_eq_append_getElem h]
 have : (c ∈ l.take j ++ [l[j]]) ↔ (c ∈ l.take j ∨ l[j] = c) := by
  rw [List.mem_append, List.mem_singleton]
  exact ⟨fun h => h.imp id Eq.symm, fun h => h.imp id Eq.symm⟩
 rw [decide_eq_decide.2 this, Bool.decide_or]
def zra (b k most : Nat) (w : World) (e : Ending) (w' : World) : Prop :=
 ∃ (v : Value) (l : List V.Comp), l.length ≤ most /\ V.qf l l.length = true /\ e = .returned v /\ CRow w' w.heap.size v l /\ Tape w' b (k + 1 + 6 * most) /\ w.grownBy w' (some b) /\ ∀ c ∈ l, c.name ∈ xy
theorem zw2 {P : Prop} (h : P := by
 have HBD := zu8 HBX.out.drew
 change Exit.inBlock _ _ _ _ wr.drew
 go_wp2
 go_roundw
 case rel => exact ⟨j + 1, by omega, by go_num, by rw [HTS.out]; rfl, HBD.out⟩
 case measure => simp [intOf]; omega) : P := h
theorem zrv (b k most : Nat) (w : World) (h : Tape w b k) (hk : k ≤ 10000) (v1 : most ≤ 100) :
  Calls Tryz.prog 35 #[.pointer (some ⟨b, 0, none⟩), .int .i64 most] w (zra b k most w) := by
 have HT := zu8 h
 have hbw := h.lt
 clear h
 go_enter Tryz.func35, Tryz.ntmps35
 go_wp2_with fail
 refine (jq b k ((most : Int) + 1) _ HT.out (by omega) (by omega) (by omega)).mono ?_
 rintro e w1 ⟨r, hr, rfl, ht1, hg1⟩
 have HT1 := zu8 ht1
 have HG1 := zu8 hg1
 have v2 : r ≤ most := by omega
 clear ht1 hg1
 go_wp2
 go_loopw [5, 6] (fun ov iv wr => ∃ (q : Nat) (l : List V.Comp), q ≤ r /\ iv = .int .i64 q /\ l.length + q ≤ r /\ CRow wr w.heap.size ov l /\ V.qf l l.length = true /\ Tape wr b (k + 1 + 6 * (r - q)) /\ w.grownBy wr (some b) /\ ∀ c ∈ l, c.name ∈ xy) (fun _ iv _ => (intOf iv).toNat)
 case atStart => exact ⟨r, [], zva _, rfl, by simp, CRow.nil _ _, rfl, HT1.out.le (by omega), HG1.out, fun c hc => by simp at hc⟩
 case round =>
  obtain ⟨q, l, hq, rfl, v3, g4, h3, h4, g2, h5⟩ := hrel
  have g7 := zu8 h5
  clear h5
  have h6 := zu8 g4
  have g8 := zu8 h3
  have h7 := zu8 h4
  have h8 := zu8 g2
  have k4 := zu8 g4.block
  obtain ⟨va, vc, k5, h2⟩ := g4.comps
  subst k5
  clear h2
  clear g4 h3 h4 g2
  by_cases hq0 : q = 0
  ·subst hq0
   go_wp2
   go_ret
   exact ⟨_, l, by omega, g8.out, rfl, h6.out, h7.out.le (by omega), h8.out, g7.out⟩
  ·obtain ⟨p, rfl⟩ : ∃ p, q = p + 1 := ⟨q - 1, by omega⟩
   have v4 : (0 : Int) < ((p + 1 : Nat) : Int) := by omega
   go_wp2_with fail
   refine (jq b _ ((l.length : Int) + 1) _ h7.out (by omega) (by omega) (by omega)).mono ?_
   rintro e w2 ⟨r2, v5, rfl, h9, g9⟩
   have k6 := zu8 h9
   have k7 := zu8 (World.grownBy.trans h8.out g9)
   have k8 := zu8 (h6.out.kept g9 (by intro b' e; cases e; omega))
   clear h9 g9
   go_wp2_with fail
   refine (comp_any b _ ((r2 : Int) - 1) _ k6.out (by omega) (WalkArith.wf_i64 (by omega))).mono ?_
   rintro e w3 ⟨c, j0, rfl, j1, hg3⟩
   have g0 := zu8 j0
   have k9 := zu8 j1
   have q0 := zu8 (World.grownBy.trans k7.out hg3)
   have q1 := zu8 (k8.out.kept hg3 (by intro b' e; cases e; omega))
   clear j0 j1 hg3
   go_wp2_with (first | (refine zbp rfl _ _ rfl _ _ rfl c g0.out.wf rfl rfl ?_) | fail)
   have h0 := vd c w3 60
   have g5 : Below w3.heap.size w3 (w3.alloc (.cells (ccells c) 60)) := (zvb _ w3).alloc (zva _) _
   have hz4 : w3.heap.size < (w3.alloc (.cells (ccells c) 60)).heap.size := by simp
   have q2 := zu8 (k9.out.below g5)
   have q3 := zu8 (World.grownBy.trans q0.out (zm g5 (some b)))
   have j2 : Hid (CRow (w3.alloc (.cells (ccells c) 60)) w.heap.size (.slice va l.length vc) l) := zu8 (q1.out.kept (row := none) (zm g5 none) (by intro b' e; cases e))
   generalize w3.alloc (.cells (ccells c) 60) = w4 at *
   obtain ⟨X, j3⟩ : ∃ X, X = w3.heap.size := ⟨_, rfl⟩
   rw [← j3] at h0 hz4 ⊢
   have j4 := zu8 h0
   clear j3 g5 h0
   go_wp2
   go_loopw [8, 9] (fun ag jv wx => ∃ j : Nat, j ≤ l.length /\ jv = .int .i64 j /\ ag = .bool (decide (c ∈ l.take j)) /\ Below w4.heap.size w4 wx) (fun _ jv _ => l.length - (intOf jv).toNat)
   case atStart => exact ⟨0, Nat.zero_le _, rfl, rfl, zvb _ _⟩
   case round =>
    obtain ⟨j, hj, rfl, rfl, j5⟩ := hrel
    have HBX := zu8 j5
    clear j5
    by_cases hlt : j < l.length
    ·have HTS := zu8 (zkv (c := c) hlt)
     obtain ⟨j6, g, off, rfl, v6, g2⟩ := j2.out.comps.at j hlt
     have j7 := zu8 j6
     have q4 := zu8 (zi (zi g2 HBX.out) (zvb _ wr).drew)
     have q5 : Hid (wr.drew.rangeAt X 0 (qb c)) := zu8 (zi (zi j4.out HBX.out) (zvb _ wr).drew)
     clear j6 g2
     generalize l[j] = d at *
     rcases g1 : decide (c ∈ l.take j) with _ | _
     ·rw [g1] at HTS
      clear g1
      go_wp2
      refine wp_region_still_lit (by kernel_rfl) (by kernel_rfl) ?_
      still_step
      still_step
      still_step
      still_step
      still_step
      refine wpStill_step (fun K hK => ?_)
      refine zce rfl (.tmp 36) rfl g (off + j * 36) rfl d j7.out q4.out (hK _ ?_)
      clear hK K
      refine wpStill_step (fun K hK => ?_)
      refine zce rfl (.tmp 7) rfl X 0 rfl c g0.out.wf q5.out (hK _ ?_)
      clear hK K
      refine wpStill_step (fun K hK => ?_)
      refine zmg rfl (.tmp 37) (.tmp 38) rfl d c j7.out g0.out.wf rfl rfl (hK _ ?_)
      clear hK K
      still_step
      still_step
      refine wpStill_nil ?_
      exact zw2
     ·rw [g1] at HTS
      clear g1
      go_wp2
      refine wp_region_any (by kernel_rfl) ?_
      change wpAny _ _ _ _ _ _ _ (World.drew _)
      refine wpAny_take (i := 0) (v := .bool true) rfl (by kernel_rfl) (by kernel_rfl) (by kernel_rfl) (fun _ _ _ h => h) (Or.inl ⟨by rfl, fun w => by go_simp⟩) ?_
      refine wpAny_take (i := 1) (v := .bool true) rfl (by kernel_rfl) (by kernel_rfl) (by kernel_rfl) (fun _ _ _ h => h) (Or.inl ⟨by rfl, fun w => by go_simp⟩) ?_
      simp only [zu3, zu4, zu5, Act.put, zu6, List.set_cons_succ, List.set_cons_zero]
      refine wpAny_take (i := 2) (v := undef) rfl (by kernel_rfl) (by kernel_rfl) (by kernel_rfl) (fun _ _ _ h => h) (Or.inr ⟨by rfl, rfl⟩) ?_
      refine wpAny_take (i := 3) (v := undef) rfl (by kernel_rfl) (by kernel_rfl) (by kernel_rfl) (fun _ _ _ h => h) (Or.inr ⟨by rfl, rfl⟩) ?_
      refine wpAny_take (i := 4) (v := undef) rfl (by kernel_rfl) (by kernel_rfl) (by kernel_rfl) (fun _ _ _ h => h) (Or.inr ⟨by rfl, rfl⟩) ?_
      refine wpAny_take (i := 5) (v := undef) rfl (by kernel_rfl) (by kernel_rfl) (by kernel_rfl) (fun _ _ _ h => h) (Or.inr ⟨by rfl, rfl⟩) ?_
      refine wpAny_take (i := 6) (v := undef) rfl (by kernel_rfl) (by kernel_rfl) (by kernel_rfl) (fun _ _ _ h => h) (Or.inr ⟨by rfl, rfl⟩) ?_
      refine wpAny_take (i := 7) (v := undef) rfl (by kernel_rfl) (by kernel_rfl) (by kernel_rfl) (fun _ _ _ h => h) (Or.inr ⟨by rfl, rfl⟩) ?_
      simp only [zu3, zu4, zu5, Act.put, zu6, List.set_cons_succ, List.set_cons_zero]
      refine wpAny_take (i := 8) (v := .bool true) rfl (by kernel_rfl) (by kernel_rfl) (by kernel_rfl) (fun _ _ _ h => h) (Or.inl ⟨by rfl, fun w => by go_simp⟩) ?_
      simp only [zu3, zu4, zu5, Act.put, zu6, List.set_cons_succ, List.set_cons_zero]
      refine wpAny_take (i := 9) (v := .bool true) rfl (by kernel_rfl) (by kernel_rfl) (by kernel_rfl) (fun _ _ _ h => h) (Or.inl ⟨by rfl, fun w => by go_simp⟩) ?_
      refine wpAny_done (by kernel_rfl) ?_ _
      simp only [zu3, zu4, zu5, Act.put, zu6, List.set_cons_succ, List.set_cons_zero]
      exact zw2
    ·obtain rfl : j = l.length := by omega
     rw [List.take_length]
     have j8 := zu8 (q2.out.below HBX.out)
     have h1 := zu8 (World.grownBy.trans q3.out (zm HBX.out (some b)))
     have j9 : Hid (CRow wr w.heap.size (.slice va l.length vc) l) := zu8 (j2.out.kept (row := none) (zm HBX.out none) (by intro b' e; cases e))
     have q6 := zu8 (zi j4.out HBX.out)
     rcases g1 : decide (c ∈ l) with _ | _
     ·have q7 : Hid (c ∉ l) := zu8 (of_decide_eq_false g1)
      have k0 : w.heap.size ≤ (wr.alloc (.cells (ccells c) 60)).heap.size := by have := h1.out.size; simp; omega
      have g6 : Below wr.heap.size wr (wr.alloc (.cells (ccells c) 60)) := (zvb _ wr).alloc (zva _) _
      have q8 : Hid (CRow (wr.alloc (.cells (ccells c) 60)) w.heap.size (.slice va l.length vc) l) := zu8 (j9.out.kept (row := none) (zm g6 none) (by intro b' e; cases e))
      clear g1
      go_wp2_with (first | (refine vm rfl _ rfl X 0 rfl c g0.out.wf q6.out ?_) | (refine zlv rfl _ rfl c g0.out.wf rfl ?_) | (refine zq7 rfl _ _ rfl w.heap.size (.slice va l.length vc) l rfl q8.out wr.heap.size c g0.out.wf rfl (vd c wr _) (by omega) k0 ?_; intro v' w7 k1 hg7) | fail)
      have q9 := zu8 k1
      have g3 : ∀ g, (Value.slice va l.length vc).ownBlock = some g -> w.heap.size ≤ g := k4.out
      have k2 := zu0 (World.grownBy.trans h1.out (zm g6 (some b))) hg7 g3
      have HG7 := zu8 k2
      have v0 := zu8 ((j8.out.below g6).grown hg7 (fun e => by have := g3 b e; omega) (fun g e => by have := g3 g e; omega))
      have k3 : Hid (V.qf (l ++ [c]) (l ++ [c]).length = true) := zu8 (zn5 g8.out g0.out.ok (by rw [g0.out.par]; omega) (by rw [g0.out.par]; omega) q7.out)
      clear k1 hg7 k2 g6 k0
      go_wp2
      go_roundw
      case rel => exact ⟨p, l ++ [c], by omega, by go_num, by simp; omega, q9.out, k3.out, v0.out.le (by omega), HG7.out, fun y hy => by
        rcases List.mem_append.1 hy with hy | hy
        · exact g7.out y hy
        · rw [List.mem_singleton.1 hy]; exact g0.out.nm⟩
      case measure => simp [intOf]
     ·clear g1
      go_wp2
      go_roundw
      case rel => exact ⟨p, l, by omega, by go_num, by omega, j9.out, g8.out, j8.out.le (by omega), h1.out, g7.out⟩
      case measure => simp [intOf]
theorem xu : (Tryz.prog.info? 29).map (·.size) = some 34 := by kernel_rfl
theorem qn {d : List Int} (hd : d.length = 32) (time : Int) (v : Value) : (icells d time v).size = 34 := by
 unfold icells zn
 simp [hd]
theorem zck {d : List Int} {time : Int} {v : Value} (hv : v.oneCell' = true) : (icells d time v).all (·.oneCell') = true := by
 rw [Array.all_eq_true_iff_forall_mem]
 intro u hu
 unfold icells zn at hu
 simp at hu
 rcases hu with ⟨n, _, rfl⟩ | rfl | rfl
 ·rfl
 ·rfl
 ·exact hv
theorem CRow.less {w : World} {N M : Nat} {v : Value} {l : List V.Comp} (h : CRow w N v l) (hM : M ≤ N) : CRow w M v l := by
 obtain ⟨⟨hx, h⟩, hw⟩ := h
 refine ⟨⟨hx, ?_⟩, hw⟩
 rcases h with h | ⟨g, cap, cur, h1, h2, h3⟩
 ·exact .inl h
 ·exact .inr ⟨g, cap, cur, h1, Nat.le_trans hM h2, h3⟩
theorem Comps.one {w : World} {v : Value} {l : List V.Comp} (h : Comps w v l) : v.oneCell' = true := by
 obtain ⟨a, cap, rfl, _⟩ := h
 rfl
theorem zb3 : (#[Value.int .u8 0, .int .u8 0, .int .u8 0, .int .u8 0, .int .u8 0, .int .u8 0, .int .u8 0, .int .u8 0, .int .u8 0, .int .u8 0, .int .u8 0, .int .u8 0, .int .u8 0, .int .u8 0, .int .u8 0, .int .u8 0, .int .u8 0, .int .u8 0, .int .u8 0, .int .u8 0, .int .u8 0, .int .u8 0, .int .u8 0, .int .u8 0, .int .u8 0, .int .u8 0, .int .u8 0, .int .u8 0, .int .u8 0, .int .u8 0, .int .u8 0, .int .u8 0, .int .i64 0, .slice none 0 0] : Array Value) = icells zq 0 (.slice none 0 0) := rfl
open Go.RowKit
theorem HRow.append {N : Nat} {w w' : World} {v v' : Value} {us us1 : List (V.Hit × Sd)} (h : HRow N w v us) (h1 : ∀ p ∈ us1, Digs w p.2.v p.1.docs) (hr : GRow 63 4 hE w' N v' (us ++ us1)) (hg : w.grownBy w' v.ownBlock) : HRow N w' v' (us ++ us1) :=
 ⟨hr, fun p hp => by
   have hd : Digs w p.2.v p.1.docs := by
     rcases List.mem_append.1 hp with hp | hp
     · exact h.each p hp
     · exact h1 p hp
   exact hd.grow hg (fun b e => by
     obtain ⟨cs, hcs⟩ := yd h.row e
     exact ⟨cs, _, _, hcs, by decide⟩)⟩
namespace V
theorem zlc (xs : List Note) (i : Int) (c : Comp) : (ul xs i c).length ≤ xs.length := by
 unfold ul kg idsN
 rw [List.length_map]
 have h1 := zd7 (c := Lib.compareBytes) (l := []) (xs := (xs.filter fun x => cov x c).map (·.adv.id))
 have h2 := List.length_filter_le (fun x => cov x c) xs
 simp at h1
 omega
theorem ze1 (xs : List Note) (l : List Comp) : ∀ k, (jw xs l k).length ≤ k * xs.length
 | 0 => by simp [jw]
 | k + 1 => by
  have ih := ze1 xs l k
  rw [jw, List.length_append, Nat.succ_mul]
  split
  ·rename_i c _
   have := zlc xs k c
   omega
  ·simp; omega
end V
def HitsPost (ok : Bool) (ys : List V.Note) (l : List V.Comp) (w : World) (e : Ending) (w' : World) : Prop := ∃ v' us, e = .returned v' /\ HRow w.heap.size w' v' us /\ us.map (·.1) = V.kt ok ys l /\ Below w.heap.size w w'
theorem zbr (d : List Int) (time : Int) (v : Value) (l : List V.Comp) (nv : Value) (xs : List NV) (w : World) (hm : zj w) (hd : d.length = 32) (h4 : ∀ n ∈ d, (Lit.int .u8 n).wf = true) (hv : Comps w v l) (hl : l.length ≤ 100) (hn : Notes w nv xs) (hx : xs.length ≤ 1000) :
  Calls Tryz.prog 17 #[.agg (icells d time v), nv] w (HitsPost (V.qt d time l) (xs.map (·.n)) l w) := by
 have HM := zu8 hm
 have HL := zu8 hv
 have HD := zu8 hd
 have j2 := zu8 h4
 have j3 := zu8 hn
 have HX := zu8 hx
 have h5 := zb5 hd time v
 have j4 := zu8 (qn hd time v)
 obtain ⟨va, vc, rfl, h0⟩ := hv
 obtain ⟨na, nc, rfl⟩ := hn.slice
 obtain ⟨W0, hW0⟩ : ∃ W0, W0 = w.alloc (.cells (icells d time (.slice va l.length vc)) 29) := ⟨_, rfl⟩
 have HB0 : Hid (Below w.heap.size w W0) := zu8 (by rw [hW0]; exact (zvb w.heap.size w).alloc (zva _) _)
 have h6 : Hid (W0.heap[w.heap.size]? = some (.cells (icells d time (.slice va l.length vc)) 29 (0, 0))) := zu8 (by rw [hW0]; exact heap_alloc_new w _)
 have HZ0 : Hid (w.heap.size < W0.heap.size) := zu8 (by rw [hW0]; simp)
 have HW := zu8 hW0
 clear hd h4 h0 hm hn hx hW0
 go_enter Tryz.func17, Tryz.ntmps17
 go_wp2_with (first | (rw [← HW.out]; refine wpList_load_row rfl _ _ rfl w.heap.size rfl _ (icells d time (.slice va l.length vc)) (0, 0) _ h6.out Tryz.underlying29 rfl (by rw [xu, j4.out]) ?_) | fail)
 refine (zhh d time (.slice va l.length vc) l _ (HM.out.below HB0.out) HD.out j2.out (HL.out.below HB0.out) (by unfold maxLen; omega)).mono ?_
 rintro e w1 ⟨rfl, hb1⟩
 have HB1 := zu9 HB0 hb1
 have HG1 := zu8 ((hb1.block _ HZ0.out).trans h6.out)
 have j5 : Hid (w.heap.size < w1.heap.size) := zu8 (Nat.lt_of_lt_of_le HZ0.out hb1.size)
 clear hb1
 generalize hok : V.qt d time l = ok at *
 have HOK := zu8 hok
 clear hok
 rcases ok with _ | _
 ·go_wp2
  go_ret
  exact ⟨_, [], rfl, HRow.nil _ _, by rw [HOK.out]; rfl, HB1.out⟩
 ·have j1 : w1.cell? ⟨w.heap.size, 33, none⟩ = some (.slice va l.length vc) := by rw [cell_of_row w1 w.heap.size 33 _ _ _ HG1.out]; exact h5
  clear h5
  go_wp2_with fail
  clear j1
  go_loopw [5, 14] (fun ov iv wx => ∃ (k : Nat) (us : List (V.Hit × Sd)), k ≤ l.length /\ iv = .int .i64 k /\ HRow w1.heap.size wx ov us /\ us.map (·.1) = V.jw (xs.map (·.n)) l k /\ Below w1.heap.size w1 wx) (fun _ iv _ => l.length - (intOf iv).toNat)
  case atStart => exact ⟨0, [], Nat.zero_le _, rfl, HRow.nil _ _, rfl, zvb _ _⟩
  case round =>
   obtain ⟨k, us, hk, rfl, g5, g1, g6⟩ := hrel
   have g7 := zu8 g5
   have h7 := zu8 g1
   have HBX := zu8 g6
   have g8 := zu9 HB1 g6
   have HUL : Hid (us.length ≤ 100000) := zu8 (by
     have h1 := V.ze1 (xs.map (·.n)) l k
     rw [← g1, List.length_map, List.length_map] at h1
     have h2 : k * xs.length ≤ 100 * 1000 := Nat.mul_le_mul (by omega) HX.out
     omega)
   obtain ⟨oa, oc, j6⟩ := g5.row.slice
   subst j6
   clear g5 g1 g6
   by_cases hlt : k < l.length
   ·obtain ⟨h8, b, off, rfl, k5, h9⟩ := HL.out.at k hlt
    have g4 := zu8 h8
    have HR := zu8 (zi h9 g8.out)
    have i1 : (0 : Int) ≤ (k : Int) := by omega
    have i2 : (k : Int) < (l.length : Int) := by omega
    have HST : Hid (V.jw (xs.map (·.n)) l (k + 1) = V.jw (xs.map (·.n)) l k ++ V.ul (xs.map (·.n)) k l[k]) := zu8 (V.zdk hlt)
    have j7 : Hid ((V.ul (xs.map (·.n)) k l[k]).length ≤ 1000) := zu8 (Nat.le_trans (V.zlc _ _ _) (by simpa using HX.out))
    clear h8 h9
    generalize l[k] = c at *
    have hb2 : Below wr.heap.size wr (wr.alloc (.cells (ccells c) 60)) := (zvb _ wr).alloc (zva _) _
    have h3 := zu8 (g7.out.below hb2)
    have HB2 := zu9 HBX hb2
    have g9 := zu9 g8 hb2
    have j8 := zu8 (vd c wr 60)
    clear hb2
    go_wp2_with (first
      | (refine vm rfl _ rfl b (off + k * 36) rfl c g4.out HR.out ?_)
      | (refine zbp rfl _ _ rfl _ _ rfl c g4.out rfl rfl ?_
         generalize wr.alloc (.cells (ccells c) 60) = w2 at *
         generalize wr.heap.size = X at *)
      | (refine vm rfl _ rfl X 0 rfl c g4.out j8.out ?_)
      | fail)
    refine (hits_any k c (.slice na xs.length nc) xs w2 (HM.out.below g9.out) g4.out (j3.out.below g9.out) HX.out g4.out.ver).mono ?_
    rintro e w3 ⟨k6, us1, rfl, g2, g0, hb3⟩
    have g3 := zu8 (h3.out.below hb3)
    have HB3 := zu9 HB2 hb3
    have j0 := zu8 g2
    have j9 := zu8 g0
    have k0 : Hid (us1.length ≤ 1000) := zu8 (by have := j7.out; rw [← g0, List.length_map] at this; exact this)
    obtain ⟨ha, hc, k1⟩ := g2.row.slice
    subst k1
    clear g2 g0 hb3
    go_wp2_with (first
      | (refine yo yx (by decide) zig ziz (by decide) rfl _ _ 35 rfl Tryz.underlying35 w1.heap.size (.slice oa us.length oc) us rfl g3.out.row (.slice ha us1.length hc) us1 rfl (GRow.gsl yx j0.out.row) (by have := HUL.out; have := k0.out; omega) HB3.out.size ?_
         intro v8 w8 hr8 hg8 _)
      | fail)
    have k2 := zu8 (g3.out.append j0.out.each hr8 hg8)
    have k3 : Hid (Below w1.heap.size w1 w8) := zu8 (HB3.out.grown hg8 HB3.out.size (fun b hb => g3.out.row.block b hb))
    have k4 : Hid ((us ++ us1).map (·.1) = V.jw (xs.map (·.n)) l (k + 1)) := zu8 (by rw [List.map_append, h7.out, j9.out, HST.out])
    clear hr8 hg8
    go_wp2
    go_roundw
    case rel => exact ⟨k + 1, _, by omega, by go_num, k2.out, k4.out, k3.out⟩
    case measure => simp [intOf]; omega
   ·obtain rfl : k = l.length := by omega
    go_wp2
    go_ret
    exact ⟨_, us, rfl, g7.out.weaken (Nat.le_of_lt j5.out), by rw [HOK.out]; unfold V.kt; rw [if_pos rfl]; exact h7.out, g8.out⟩
open Go.RowKit
namespace V
end V
theorem zqp : (Tryz.prog.info? 3).map (fun i => (i.zero, i.size, i.bytes)) = some (some (.int .i64 0), 1, 8) := by kernel_rfl
open Go.RowKit Go.Shelf
attribute [local go_sem] Oper.semAt_some
def ZRow (w : World) (N : Nat) (v : Value) (l : List Int) : Prop := w.ownsRow N 3 1 v l.length (l.map (Value.int .i64))
theorem ZRow.nil (w : World) (N : Nat) : ZRow w N (.slice none 0 0) [] := ⟨rfl, .inl ⟨rfl, rfl⟩⟩
theorem ZRow.slice {w : World} {N : Nat} {v : Value} {l : List Int} (h : ZRow w N v l) : ∃ a cap, v = .slice a l.length cap := by
 exact zym
theorem ZRow.block {w : World} {N : Nat} {v : Value} {l : List Int} (h : ZRow w N v l) : ∀ b, v.ownBlock = some b -> N ≤ b := by
 exact zyi
theorem ZRow.cellsAt {w : World} {N : Nat} {v : Value} {l : List Int} (h : ZRow w N v l) : ∀ g, v.ownBlock = some g -> ∃ cur, w.heap[g]? = some (.cells cur 3 (0, 0)) := by
 intro b hb
 rcases h.2 with ⟨rfl, _⟩ | ⟨g, cap, cur, rfl, _, hg, _⟩
 ·cases hb
 ·simp [Value.ownBlock] at hb
  subst hb
  exact ⟨cur, hg⟩
theorem ZRow.kept {w w' : World} {N : Nat} {v : Value} {l : List Int} (h : ZRow w N v l) {row : Option Nat} (hg : w.grownBy w' row) (hr : ∀ b, row = some b -> v.ownBlock ≠ some b) : ZRow w' N v l := by
 obtain ⟨hx, h⟩ := h
 refine ⟨hx, ?_⟩
 rcases h with h | ⟨g, cap, cur, rfl, hb, hgg, rest⟩
 ·exact .inl h
 ·refine .inr ⟨g, cap, cur, rfl, hb, ?_, rest⟩
  rw [hg.block g (Array.getElem?_eq_some_iff.1 hgg).1 (fun e => hr g e.symm rfl)]
  exact hgg
theorem ZRow.keeps {w w' : World} {N : Nat} {v : Value} {l : List Int} (h : ZRow w N v l) (hg : w.grownBy w' v.ownBlock) : KeepsOthers w w' :=
 ⟨hg.size, fun k o hk ho => (hg.block k (Array.getElem?_eq_some_iff.1 hk).1 (fun e => by
   obtain ⟨cur, hc⟩ := h.cellsAt k e.symm
   rw [hc] at hk
   cases hk
   cases ho)).trans hk⟩
def Zs (w : World) (v : Value) (l : List Int) : Prop :=
 ∃ a cap, v = .slice a l.length cap /\ ∀ j (h : j < l.length), ∃ b off, a = some ⟨b, off, none⟩ /\ b < w.heap.size /\ w.cell? ⟨b, off + j, none⟩ = some (.int .i64 l[j])
theorem Zs.nil (w : World) : Zs w (.slice none 0 0) [] := ⟨none, 0, rfl, fun j h => by simp at h⟩
theorem zdc (g : Nat) : ∀ (vs : List Value) (o : Nat) (w : World), (w.setCells g o vs).heap.size = w.heap.size
 | [], _, _ => rfl
 | v :: r, o, w => by
  show ((w.setCell ⟨g, o, none⟩ v).setCells g (o + 1) r).heap.size = w.heap.size
  rw [zdc g r]; simp
theorem zcz {B g : Nat} {a : World} (hg : B ≤ g) : ∀ (vs : List Value) (o : Nat) (w : World), Below B a w -> Below B a (w.setCells g o vs)
 | [], _, _, h => h
 | v :: r, o, _, h => zcz hg r (o + 1) _ (h.setCell (p := ⟨g, o, none⟩) hg v)
theorem zrs {F : Fence} {n : Nat} {ops : Array Oper} {rest : List Oper} {o : Oper} {a : Act} {w : World} {Q : Exit -> Act -> World -> Prop} (g1 : o.guard = none) (s x : Operand)
  (ho : o.op = .call { callee := .builtin .append, args := #[s, x], argTypes := #[22, 22] })
  (N : Nat) (v : Value) (l : List Int) (hs : a.eval s = v) (g0 : ZRow w N v l) (b : Nat) (i : Int) (hx : a.eval x = .slice (some ⟨b, 0, none⟩) 1 1) (hr : w.cell? ⟨b, 0, none⟩ = some (.int .i64 i)) (hl : l.length ≤ 1000000) (hN : N ≤ w.heap.size)
  (h : ∀ v' w', ZRow w' N v' (l ++ [i]) -> w.grownBy w' v.ownBlock -> wpListIn F n Tryz.prog ops Q rest (a.put o.dst v') w') : wpListIn F n Tryz.prog ops Q (o :: rest) a w := by
 obtain ⟨i0, hi, g2, g3, g4⟩ := info_parts zqp
 refine wpListIn_append_own w g1 s x 22 ho N 3 i0 (.int .i64 0) 1 8 Tryz.underlying22 hi g2 g3 g4 rfl (by decide) v l.length _ hs g0 ⟨b, 0, none⟩ 1 1 [.int .i64 i] hx rfl ?_ ?_ (by unfold maxLen; omega) (by omega) hN ?_
 ·intro j u hj
  have : j = 0 := by
   have := (List.getElem?_eq_some_iff.1 hj).1
   simpa using this
  subst this
  rw [Addr.add_mid]
  simpa [hr] using hj
 ·intro u hu
  rw [List.mem_singleton.1 hu]; rfl
 ·intro v' w' g5 hg _
  refine h v' w' ?_ hg
  unfold ZRow
  rw [List.length_append, List.map_append]
  exact g5
theorem zom {F : Fence} {n : Nat} {ops : Array Oper} {rest : List Oper} {o : Oper} {a : Act} {w : World} {Q : Exit -> Act -> World -> Prop} (g1 : o.guard = none) (x : Operand) (ho : o.op = .load 29 x)
  (g : Nat) (t : TypeId) (hx : a.eval x = .pointer (some ⟨g, 0, none⟩)) (cs : Array Value) (hcs : cs.size = 34) (g2 : w.heap[g]? = some (.cells cs t (0, 0)))
  (h : wpListIn F n Tryz.prog ops Q rest (a.put o.dst (.agg cs)) w) : wpListIn F n Tryz.prog ops Q (o :: rest) a w := by
 refine wpListIn_plain g1 fun K hK => ?_
 have g0 : (execOp a.eval o).run Tryz.prog w = .ok (.value (.agg cs)) w := by
  unfold execOp
  simp only [ho, hx, Instr.loadAt, Instr.sureAddr, Sem.run_bind, Sem.run_pure, Result.andThen_ok, run_loadVar_row w g t 29 cs (0, 0) _ g2 Tryz.underlying29 rfl (by rw [xu, hcs])]
 unfold Oper.wpIn
 refine ⟨by simp [Oper.about, ho], ?_⟩
 rw [Oper.semAt_plain F _ _ (by rw [ho]; intro c g3; cases g3), g0]
 exact hK _ _ h
open Go.RowKit Go.Shelf
attribute [local go_sem] Oper.semAt_some
theorem anc1_in (n : Nat) (hn : 1 ≤ n) (lp bX o : Nat) (v : Value) (l : List V.Comp) (ho : V.qf l l.length = true) (hl : l.length ≤ 100000) (i : Int) (hi : -1 ≤ i) (h6 : i < l.length) (j4 : o ≠ bX) (j3 : o ≠ bX + 1) (J Jx : List Int -> World -> Prop)
  (hJ : ∀ s A u, J s A -> J s (A.setCell ⟨bX + 1, 0, none⟩ u))
  (hY : ∀ pre x W, J pre W -> pre.length < l.length -> YieldAt Fence.wide (n - 1) Tryz.prog lp #[.int .i64 x] W fun e W' =>
    (e = .returned (.bool true) /\ J (pre ++ [x]) W' /\ Spared (bX + 2) o W W') ∨ (e = .returned (.bool false) /\ Jx (pre ++ [x]) W'))
  (W : World) (hI : W.cell? ⟨bX + 1, 0, none⟩ = some (.int .i64 i)) (hF : W.frozen? ⟨bX + 1, 0, none⟩ = false) (hX : W.cell? ⟨bX, 33, none⟩ = some v) (hC : uf W bX o v l) (h0 : J [] W) :
  CallsIn Fence.wide n Tryz.prog 109 #[.func (.yield lp) #[] #[], .pointer (some ⟨bX + 1, 0, none⟩), .pointer (some ⟨bX, 0, none⟩)] W fun e W' => (∃ v, e = .returned v) /\
   ((∃ ys, ys = V.anc l i /\ J ys W') ∨ (∃ pre, pre <+: V.anc l i /\ Jx pre W')) := by
 have HJ := zu8 hJ
 have HY := zu8 hY
 have HO := zu8 ho
 have HC := zu8 hC
 obtain ⟨va, vc, rfl, g5⟩ := hC
 clear hJ hY ho g5
 refine callsIn_of_wp Tryz.func109 rfl trivial ?_ rfl
 simp only [Tryz.ntmps109, List.size_toArray, List.length_cons, List.length_nil, Nat.reduceAdd, Nat.reduceSub, Array.replicate_succ, Array.replicate_zero, List.push_toArray, List.append_toArray, List.nil_append, List.cons_append]
 gi_wp2
 gi_loopw [4] (fun _ wr => ∃ (pre : List Int) (r : Int), -1 ≤ r /\ r < l.length /\ wr.cell? ⟨bX + 1, 0, none⟩ = some (.int .i64 r) /\ wr.frozen? ⟨bX + 1, 0, none⟩ = false /\ wr.cell? ⟨bX, 33, none⟩ = some (.slice va l.length vc) /\ uf wr bX o (.slice va l.length vc) l /\ V.anc l i = pre ++ V.anc l r /\ J pre wr)
  (fun _ wr => intOfO (wr.cell? ⟨bX + 1, 0, none⟩))
 case atStart => exact ⟨[], i, hi, h6, hI, hF, hX, HC.out, rfl, h0⟩
 case round =>
  obtain ⟨pre, r, j5, j6, hI, hF, hX, hc, g6, hj⟩ := hrel
  have HPC := zu8 g6
  have g7 := zu8 hj
  have h7 := zu8 hc
  clear g6 hj hc
  by_cases hneg : r < 0
  ·have j7 : ¬ 0 ≤ r := by omega
   gi_wp2
   go_end0
   have g2 : J (V.anc l i) wr := by rw [HPC.out, V.anc_neg hneg, List.append_nil]; exact g7.out
   first
    | exact ⟨⟨_, rfl⟩, .inl ⟨_, rfl, g2⟩⟩
    | exact ⟨⟨_, rfl⟩, .inl g2⟩
    | exact .inl g2
  ·obtain ⟨k, rfl⟩ := Int.eq_ofNat_of_zero_le (show 0 ≤ r by omega)
   have hk : k < l.length := by omega
   have HST := zu8 (V.zp5 HO.out hk)
   have g3 := V.zq5 HO.out hk
   have g1 : pre.length < l.length := by
    have h1 := congrArg List.length HPC.out
    rw [HST.out] at h1
    have h2 := V.znt HO.out i (by omega)
    simp at h1
    omega
   obtain ⟨fn, tmps, assign, body, hy, hR⟩ := HY.out pre (k : Int) wr g7.out g1
   clear g1
   gi_wp2
   refine hR.mono ?_
   rintro e W3 (⟨rfl, h8, g0⟩ | ⟨rfl, h5⟩)
   ·have g8 := (g0.cell (b := bX + 1) (by omega) (by omega) 0).trans hI
    have h9 := (g0.frozen (b := bX + 1) (by omega) (by omega) 0).trans hF
    have j0 := (g0.cell (b := bX) (by omega) (by omega) 33).trans hX
    have g9 : uf W3 bX o (.slice va l.length vc) l := h7.out.kept ⟨g0.1, fun q hq j1 => g0.2 q (by omega) j1⟩
    have j2 := zu8 g9
    obtain ⟨a', c', e', h3⟩ := g9
    obtain ⟨j8, b, off, ea, j9, k0, h4⟩ := h3 k hk
    cases e'
    subst ea
    have k1 : W3.cell? ⟨b, off + k * 36, none⟩ = some (.int .i64 l[k].par) := h4 0 _ rfl
    clear h3 h4
    have g4 := zu8 g3
    clear g3
    generalize l[k].par = pr at *
    gi_wp2
    go_roundw
    case rel =>
     refine ⟨pre ++ [(k : Int)], pr, g4.out.1, by have := g4.out.2; omega, World.cell?_setCell_same _ _ _ g8, ?_, ?_, j2.out.setCell (by omega) _, by rw [HPC.out, HST.out]; simp, HJ.out _ _ _ h8⟩
     ·rw [World.frozen?_setCell]; exact h9
     ·rw [World.cell?_setCell_other _ _ _ _ (by simp)]; exact j0
    case measure =>
     rw [World.cell?_setCell_same _ _ _ g8, hI]
     have := g4.out
     simp [intOfO]; omega
   ·gi_wp2
    refine bodyPost_ret (results_none rfl _ _ _) rfl ?_
    exact ⟨⟨_, rfl⟩, .inr ⟨_, by rw [HPC.out, HST.out]; exact ⟨V.anc l l[k].par, by simp⟩, h5⟩⟩
theorem anc1_seq (n : Nat) (hn : 1 ≤ n) (bX o : Nat) (v : Value) (l : List V.Comp) (ho : V.qf l l.length = true) (hl : l.length ≤ 100000) (i : Int) (hi : -1 ≤ i) (g0 : i < l.length) (g1 : o < bX) (w : World) (hb : bX + 1 < w.heap.size)
  (hI : w.cell? ⟨bX + 1, 0, none⟩ = some (.int .i64 i)) (hF : w.frozen? ⟨bX + 1, 0, none⟩ = false) (hX : w.cell? ⟨bX, 33, none⟩ = some v) (hC : uf w bX o v l) :
  HandsP Fence.wide n Tryz.prog 109 #[.pointer (some ⟨bX + 1, 0, none⟩), .pointer (some ⟨bX, 0, none⟩)] (fun x : Int => #[.int .i64 x]) (Spared (bX + 2) o) (fun ys => ys = V.anc l i) (fun pre => pre <+: V.anc l i) (fun pre _ => pre.length < l.length) w (bX + 1) := by
 intro lp J Jx W hW hJ hY h0
 exact anc1_in n hn lp bX o v l ho hl i hi g0 (by omega) (by omega) J Jx hJ hY W ((hW.cell (p := ⟨bX + 1, 0, none⟩) hb).trans hI) ((hW.frozen (p := ⟨bX + 1, 0, none⟩) hb).trans hF) ((hW.cell (p := ⟨bX, 33, none⟩) (show bX < w.heap.size by omega)).trans hX) (hC.kept ⟨hW.size, fun k hk _ => hW.block k (by omega)⟩) h0
end Go.Proofs.YtbikeahmldobkaaGreatDoor
