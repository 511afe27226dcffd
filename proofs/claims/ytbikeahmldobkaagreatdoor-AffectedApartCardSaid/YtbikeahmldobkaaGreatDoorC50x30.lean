/-
  Lemmas for the law.
-/
import Derived.Test.YtbikeahmldobkaaGreatDoorC50x09
import Derived.Test.YtbikeahmldobkaaGreatDoorC50x26
import Derived.Test.YtbikeahmldobkaaGreatDoorC50x29
import Derived.Test.YtbikeahmldobkaaGreatDoorC50x08
import Derived.Test.YtbikeahmldobkaaGreatDoorC50x17
import Derived.Test.YtbikeahmldobkaaGreatDoorC50x13
import Derived.Test.YtbikeahmldobkaaGreatDoorC50x24
import Derived.Test.YtbikeahmldobkaaGreatDoorC50x22
set_option linter.all false
set_option maxRecDepth 100000
set_option maxHeartbeats 6400000
namespace Go.Proofs.YtbikeahmldobkaaGreatDoor
open Go.RowKit
theorem zv7 {w w1 w2 : World} {row row2 : Option Nat} (h : w.grownBy w1 row) (h2 : w1.grownBy w2 row2) (hr : ∀ g, row2 = some g -> w.heap.size ≤ g) : w.grownBy w2 row :=
 ⟨h2.os.trans h.os, h2.tape.trans h.tape, h2.output.trans h.output, Nat.le_trans h.size h2.size, fun k hk g0 => (h2.block k (Nat.lt_of_lt_of_le hk h.size) (fun e => by have := hr k e.symm; omega)).trans (h.block k hk g0)⟩
theorem zlm {l : List V.Comp} {c : V.Comp} {j : Nat} (h : j < l.length) : decide (c ∈ l.take (j + 1)) = (decide (c ∈ l.take j) || decide (l[j] = c)) := by
 rw [List.take_succ_eq_append_getElem h]
 have : (c ∈ l.take j ++ [l[j]]) ↔ (c ∈ l.take j ∨ l[j] = c) := by
  rw [List.mem_append, List.mem_singleton]
  exact ⟨fun h => h.imp id Eq.symm, fun h => h.imp id Eq.symm⟩
 rw [decide_eq_decide.2 this, Bool.decide_or]
def zsc (b k most : Nat) (w : World) (e : Ending) (w' : World) : Prop :=
 ∃ (v : Value) (l : List V.Comp), l.length ≤ most /\ V.qg l l.length = true /\ e = .returned v /\ CRow w' w.heap.size v l /\ Tape w' b (k + 1 + 6 * most) /\ w.grownBy w' (some b) /\ ∀ c ∈ l, c.name ∈ vy
theorem zyn {P : Prop} (h : P := by
 have HBD := zwg HBX.out.drew
 change Exit.inBlock _ _ _ _ wr.drew
 go_wp2
 go_roundw
 case rel => exact ⟨j + 1, by omega, by go_num, by rw [HTS.out]; rfl, HBD.out⟩
 case measure => simp [intOf]; omega) : P := h
theorem zsu (b k most : Nat) (w : World) (h : Tape w b k) (hk : k ≤ 10000) (q9 : most ≤ 100) :
  Calls Tryz.prog 35 #[.pointer (some ⟨b, 0, none⟩), .int .i64 most] w (zsc b k most w) := by
 have HT := zwg h
 have hbw := h.lt
 clear h
 go_enter Tryz.func35, Tryz.ntmps35
 go_wp2_with fail
 refine (jf b k ((most : Int) + 1) _ HT.out (by omega) (by omega) (by omega)).mono ?_
 rintro e w1 ⟨r, hr, rfl, ht1, hg1⟩
 have HT1 := zwg ht1
 have HG1 := zwg hg1
 have v0 : r ≤ most := by omega
 clear ht1 hg1
 go_wp2
 go_loopw [5, 6] (fun ov iv wr => ∃ (q : Nat) (l : List V.Comp), q ≤ r /\ iv = .int .i64 q /\ l.length + q ≤ r /\ CRow wr w.heap.size ov l /\ V.qg l l.length = true /\ Tape wr b (k + 1 + 6 * (r - q)) /\ w.grownBy wr (some b) /\ ∀ c ∈ l, c.name ∈ vy) (fun _ iv _ => (intOf iv).toNat)
 case atStart => exact ⟨r, [], zwi _, rfl, by simp, CRow.nil _ _, rfl, HT1.out.le (by omega), HG1.out, fun c hc => by simp at hc⟩
 case round =>
  obtain ⟨q, l, hq, rfl, v1, g4, h2, h3, g2, h4⟩ := hrel
  have g7 := zwg h4
  clear h4
  have h5 := zwg g4
  have HTO := zwg h2
  have h6 := zwg h3
  have h7 := zwg g2
  have k3 := zwg g4.block
  obtain ⟨va, vc, k4, h1⟩ := g4.comps
  subst k4
  clear h1
  clear g4 h2 h3 g2
  by_cases hq0 : q = 0
  ·subst hq0
   go_wp2
   go_ret
   exact ⟨_, l, by omega, HTO.out, rfl, h5.out, h6.out.le (by omega), h7.out, g7.out⟩
  ·obtain ⟨p, rfl⟩ : ∃ p, q = p + 1 := ⟨q - 1, by omega⟩
   have v2 : (0 : Int) < ((p + 1 : Nat) : Int) := by omega
   go_wp2_with fail
   refine (jf b _ ((l.length : Int) + 1) _ h6.out (by omega) (by omega) (by omega)).mono ?_
   rintro e w2 ⟨r2, v3, rfl, h8, g8⟩
   have k5 := zwg h8
   have k6 := zwg (World.grownBy.trans h7.out g8)
   have k7 := zwg (h5.out.kept g8 (by intro b' e; cases e; omega))
   clear h8 g8
   go_wp2_with fail
   refine (comp_any b _ ((r2 : Int) - 1) _ k5.out (by omega) (WalkArith.wf_i64 (by omega))).mono ?_
   rintro e w3 ⟨c, h9, rfl, j0, hg3⟩
   have g0 := zwg h9
   have k8 := zwg j0
   have k9 := zwg (World.grownBy.trans k6.out hg3)
   have q0 := zwg (k7.out.kept hg3 (by intro b' e; cases e; omega))
   clear h9 j0 hg3
   go_wp2_with (first | (refine zfw rfl _ _ rfl _ _ rfl c g0.out.wf rfl rfl ?_) | fail)
   have g9 := zcq c w3 60
   have g5 : Below w3.heap.size w3 (w3.alloc (.cells (ccells c) 60)) := (zwj _ w3).alloc (zwi _) _
   have hz4 : w3.heap.size < (w3.alloc (.cells (ccells c) 60)).heap.size := by simp
   have q1 := zwg (k8.out.below g5)
   have HG4 := zwg (World.grownBy.trans k9.out (zn g5 (some b)))
   have j1 : Hid (CRow (w3.alloc (.cells (ccells c) 60)) w.heap.size (.slice va l.length vc) l) := zwg (q0.out.kept (row := none) (zn g5 none) (by intro b' e; cases e))
   generalize w3.alloc (.cells (ccells c) 60) = w4 at *
   obtain ⟨X, j2⟩ : ∃ X, X = w3.heap.size := ⟨_, rfl⟩
   rw [← j2] at g9 hz4 ⊢
   have j3 := zwg g9
   clear j2 g5 g9
   go_wp2
   go_loopw [8, 9] (fun ag jv wx => ∃ j : Nat, j ≤ l.length /\ jv = .int .i64 j /\ ag = .bool (decide (c ∈ l.take j)) /\ Below w4.heap.size w4 wx) (fun _ jv _ => l.length - (intOf jv).toNat)
   case atStart => exact ⟨0, Nat.zero_le _, rfl, rfl, zwj _ _⟩
   case round =>
    obtain ⟨j, hj, rfl, rfl, j4⟩ := hrel
    have HBX := zwg j4
    clear j4
    by_cases hlt : j < l.length
    ·have HTS := zwg (zlm (c := c) hlt)
     obtain ⟨j5, g, off, rfl, v4, g2⟩ := j1.out.comps.at j hlt
     have j6 := zwg j5
     have q2 := zwg (zk (zk g2 HBX.out) (zwj _ wr).drew)
     have q3 : Hid (wr.drew.rangeAt X 0 (qu c)) := zwg (zk (zk j3.out HBX.out) (zwj _ wr).drew)
     clear j5 g2
     generalize l[j] = d at *
     rcases g1 : decide (c ∈ l.take j) with _ | _
     ·rw [g1] at HTS
      clear g1
      go_wp2
      refine wp_region_still_lit (by kernel_rfl) (by kernel_rfl) ?_
      still_step
      still_step
      still_step
      still_step
      still_step
      refine wpStill_step (fun K hK => ?_)
      refine zjc rfl (.tmp 36) rfl g (off + j * 36) rfl d j6.out q2.out (hK _ ?_)
      clear hK K
      refine wpStill_step (fun K hK => ?_)
      refine zjc rfl (.tmp 7) rfl X 0 rfl c g0.out.wf q3.out (hK _ ?_)
      clear hK K
      refine wpStill_step (fun K hK => ?_)
      refine zv6 rfl (.tmp 37) (.tmp 38) rfl d c j6.out g0.out.wf rfl rfl (hK _ ?_)
      clear hK K
      still_step
      still_step
      refine wpStill_nil ?_
      exact zyn
     ·rw [g1] at HTS
      clear g1
      go_wp2
      refine wp_region_any (by kernel_rfl) ?_
      change wpAny _ _ _ _ _ _ _ (World.drew _)
      refine wpAny_take (i := 0) (v := .bool true) rfl (by kernel_rfl) (by kernel_rfl) (by kernel_rfl) (fun _ _ _ h => h) (Or.inl ⟨by rfl, fun w => by go_simp⟩) ?_
      refine wpAny_take (i := 1) (v := .bool true) rfl (by kernel_rfl) (by kernel_rfl) (by kernel_rfl) (fun _ _ _ h => h) (Or.inl ⟨by rfl, fun w => by go_simp⟩) ?_
      simp only [zwb, zwc, zwd, Act.put, zwe, List.set_cons_succ, List.set_cons_zero]
      refine wpAny_take (i := 2) (v := undef) rfl (by kernel_rfl) (by kernel_rfl) (by kernel_rfl) (fun _ _ _ h => h) (Or.inr ⟨by rfl, rfl⟩) ?_
      refine wpAny_take (i := 3) (v := undef) rfl (by kernel_rfl) (by kernel_rfl) (by kernel_rfl) (fun _ _ _ h => h) (Or.inr ⟨by rfl, rfl⟩) ?_
      refine wpAny_take (i := 4) (v := undef) rfl (by kernel_rfl) (by kernel_rfl) (by kernel_rfl) (fun _ _ _ h => h) (Or.inr ⟨by rfl, rfl⟩) ?_
      refine wpAny_take (i := 5) (v := undef) rfl (by kernel_rfl) (by kernel_rfl) (by kernel_rfl) (fun _ _ _ h => h) (Or.inr ⟨by rfl, rfl⟩) ?_
      refine wpAny_take (i := 6) (v := undef) rfl (by kernel_rfl) (by kernel_rfl) (by kernel_rfl) (fun _ _ _ h => h) (Or.inr ⟨by rfl, rfl⟩) ?_
      refine wpAny_take (i := 7) (v := undef) rfl (by kernel_rfl) (by kernel_rfl) (by kernel_rfl) (fun _ _ _ h => h) (Or.inr ⟨by rfl, rfl⟩) ?_
      simp only [zwb, zwc, zwd, Act.put, zwe, List.set_cons_succ, List.set_cons_zero]
      refine wpAny_take (i := 8) (v := .bool true) rfl (by kernel_rfl) (by kernel_rfl) (by kernel_rfl) (fun _ _ _ h => h) (Or.inl ⟨by rfl, fun w => by go_simp⟩) ?_
      simp only [zwb, zwc, zwd, Act.put, zwe, List.set_cons_succ, List.set_cons_zero]
      refine wpAny_take (i := 9) (v := .bool true) rfl (by kernel_rfl) (by kernel_rfl) (by kernel_rfl) (fun _ _ _ h => h) (Or.inl ⟨by rfl, fun w => by go_simp⟩) ?_
      refine wpAny_done (by kernel_rfl) ?_ _
      simp only [zwb, zwc, zwd, Act.put, zwe, List.set_cons_succ, List.set_cons_zero]
      exact zyn
    ·obtain rfl : j = l.length := by omega
     rw [List.take_length]
     have j7 := zwg (q1.out.below HBX.out)
     have h0 := zwg (World.grownBy.trans HG4.out (zn HBX.out (some b)))
     have j8 : Hid (CRow wr w.heap.size (.slice va l.length vc) l) := zwg (j1.out.kept (row := none) (zn HBX.out none) (by intro b' e; cases e))
     have q4 := zwg (zk j3.out HBX.out)
     rcases g1 : decide (c ∈ l) with _ | _
     ·have q5 : Hid (c ∉ l) := zwg (of_decide_eq_false g1)
      have j9 : w.heap.size ≤ (wr.alloc (.cells (ccells c) 60)).heap.size := by have := h0.out.size; simp; omega
      have g6 : Below wr.heap.size wr (wr.alloc (.cells (ccells c) 60)) := (zwj _ wr).alloc (zwi _) _
      have q6 : Hid (CRow (wr.alloc (.cells (ccells c) 60)) w.heap.size (.slice va l.length vc) l) := zwg (j8.out.kept (row := none) (zn g6 none) (by intro b' e; cases e))
      clear g1
      go_wp2_with (first | (refine zc7 rfl _ rfl X 0 rfl c g0.out.wf q4.out ?_) | (refine zmk rfl _ rfl c g0.out.wf rfl ?_) | (refine zr8 rfl _ _ rfl w.heap.size (.slice va l.length vc) l rfl q6.out wr.heap.size c g0.out.wf rfl (zcq c wr _) (by omega) j9 ?_; intro v' w7 k0 hg7) | fail)
      have q7 := zwg k0
      have g3 : ∀ g, (Value.slice va l.length vc).ownBlock = some g -> w.heap.size ≤ g := k3.out
      have k1 := zv7 (World.grownBy.trans h0.out (zn g6 (some b))) hg7 g3
      have HG7 := zwg k1
      have q8 := zwg ((j7.out.below g6).grown hg7 (fun e => by have := g3 b e; omega) (fun g e => by have := g3 g e; omega))
      have k2 : Hid (V.qg (l ++ [c]) (l ++ [c]).length = true) := zwg (zoy HTO.out g0.out.ok (by rw [g0.out.par]; omega) (by rw [g0.out.par]; omega) q5.out)
      clear k0 hg7 k1 g6 j9
      go_wp2
      go_roundw
      case rel => exact ⟨p, l ++ [c], by omega, by go_num, by simp; omega, q7.out, k2.out, q8.out.le (by omega), HG7.out, fun y hy => by
        rcases List.mem_append.1 hy with hy | hy
        · exact g7.out y hy
        · rw [List.mem_singleton.1 hy]; exact g0.out.nm⟩
      case measure => simp [intOf]
     ·clear g1
      go_wp2
      go_roundw
      case rel => exact ⟨p, l, by omega, by go_num, by omega, j8.out, HTO.out, j7.out.le (by omega), h0.out, g7.out⟩
      case measure => simp [intOf]
theorem yw : (Tryz.prog.info? 29).map (·.size) = some 34 := by kernel_rfl
theorem ql {d : List Int} (hd : d.length = 32) (time : Int) (v : Value) : (icells d time v).size = 34 := by
 unfold icells zq
 simp [hd]
theorem zbk {d : List Int} {time : Int} {v : Value} (hv : v.oneCell' = true) : (icells d time v).all (·.oneCell') = true := by
 rw [Array.all_eq_true_iff_forall_mem]
 intro u hu
 unfold icells zq at hu
 simp at hu
 rcases hu with ⟨n, _, rfl⟩ | rfl | rfl
 ·rfl
 ·rfl
 ·exact hv
theorem CRow.less {w : World} {N M : Nat} {v : Value} {l : List V.Comp} (h : CRow w N v l) (hM : M ≤ N) : CRow w M v l := by
 obtain ⟨⟨hx, h⟩, hw⟩ := h
 refine ⟨⟨hx, ?_⟩, hw⟩
 rcases h with h | ⟨g, cap, cur, h1, h2, h3⟩
 ·exact .inl h
 ·exact .inr ⟨g, cap, cur, h1, Nat.le_trans hM h2, h3⟩
theorem Comps.one {w : World} {v : Value} {l : List V.Comp} (h : Comps w v l) : v.oneCell' = true := by
 obtain ⟨a, cap, rfl, _⟩ := h
 rfl
theorem zcv : (#[Value.int .u8 0, .int .u8 0, .int .u8 0, .int .u8 0, .int .u8 0, .int .u8 0, .int .u8 0, .int .u8 0, .int .u8 0, .int .u8 0, .int .u8 0, .int .u8 0, .int .u8 0, .int .u8 0, .int .u8 0, .int .u8 0, .int .u8 0, .int .u8 0, .int .u8 0, .int .u8 0, .int .u8 0, .int .u8 0, .int .u8 0, .int .u8 0, .int .u8 0, .int .u8 0, .int .u8 0, .int .u8 0, .int .u8 0, .int .u8 0, .int .u8 0, .int .u8 0, .int .i64 0, .slice none 0 0] : Array Value) = icells zu 0 (.slice none 0 0) := rfl
open Go.RowKit
theorem HRow.append {N : Nat} {w w' : World} {v v' : Value} {us us1 : List (V.Hit × Sd)} (h : HRow N w v us) (h1 : ∀ p ∈ us1, Digs w p.2.v p.1.docs) (hr : GRow 63 4 hE w' N v' (us ++ us1)) (hg : w.grownBy w' v.ownBlock) : HRow N w' v' (us ++ us1) :=
 ⟨hr, fun p hp => by
   have hd : Digs w p.2.v p.1.docs := by
     rcases List.mem_append.1 hp with hp | hp
     · exact h.each p hp
     · exact h1 p hp
   exact hd.grow hg (fun b e => by
     obtain ⟨cs, hcs⟩ := yp h.row e
     exact ⟨cs, _, _, hcs, by decide⟩)⟩
namespace V
theorem zl2 (xs : List Note) (i : Int) (c : Comp) : (zae xs i c).length ≤ xs.length := by
 unfold zae km idsN
 rw [List.length_map]
 have h1 := za3 (c := Lib.compareBytes) (l := []) (xs := (xs.filter fun x => cov x c).map (·.adv.id))
 have h2 := List.length_filter_le (fun x => cov x c) xs
 simp at h1
 omega
theorem zfs (xs : List Note) (l : List Comp) : ∀ k, (jh xs l k).length ≤ k * xs.length
 | 0 => by simp [jh]
 | k + 1 => by
  have ih := zfs xs l k
  rw [jh, List.length_append, Nat.succ_mul]
  split
  ·rename_i c _
   have := zl2 xs k c
   omega
  ·simp; omega
end V
def HitsPost (ok : Bool) (ys : List V.Note) (l : List V.Comp) (w : World) (e : Ending) (w' : World) : Prop := ∃ v' us, e = .returned v' /\ HRow w.heap.size w' v' us /\ us.map (·.1) = V.kx ok ys l /\ Below w.heap.size w w'
theorem zbc (d : List Int) (time : Int) (v : Value) (l : List V.Comp) (nv : Value) (xs : List NV) (w : World) (hm : zj w) (hd : d.length = 32) (h3 : ∀ n ∈ d, (Lit.int .u8 n).wf = true) (hv : Comps w v l) (hl : l.length ≤ 100) (hn : Notes w nv xs) (hx : xs.length ≤ 1000) :
  Calls Tryz.prog 17 #[.agg (icells d time v), nv] w (HitsPost (V.jo d time l) (xs.map (·.n)) l w) := by
 have HM := zwg hm
 have HL := zwg hv
 have HD := zwg hd
 have j1 := zwg h3
 have j2 := zwg hn
 have HX := zwg hx
 have h4 := zex hd time v
 have j3 := zwg (ql hd time v)
 obtain ⟨va, vc, rfl, g9⟩ := hv
 obtain ⟨na, nc, rfl⟩ := hn.slice
 obtain ⟨W0, hW0⟩ : ∃ W0, W0 = w.alloc (.cells (icells d time (.slice va l.length vc)) 29) := ⟨_, rfl⟩
 have HB0 : Hid (Below w.heap.size w W0) := zwg (by rw [hW0]; exact (zwj w.heap.size w).alloc (zwi _) _)
 have h5 : Hid (W0.heap[w.heap.size]? = some (.cells (icells d time (.slice va l.length vc)) 29 (0, 0))) := zwg (by rw [hW0]; exact heap_alloc_new w _)
 have HZ0 : Hid (w.heap.size < W0.heap.size) := zwg (by rw [hW0]; simp)
 have HW := zwg hW0
 clear hd h3 g9 hm hn hx hW0
 go_enter Tryz.func17, Tryz.ntmps17
 go_wp2_with (first | (rw [← HW.out]; refine wpList_load_row rfl _ _ rfl w.heap.size rfl _ (icells d time (.slice va l.length vc)) (0, 0) _ h5.out Tryz.underlying29 rfl (by rw [yw, j3.out]) ?_) | fail)
 refine (zic d time (.slice va l.length vc) l _ (HM.out.below HB0.out) HD.out j1.out (HL.out.below HB0.out) (by unfold maxLen; omega)).mono ?_
 rintro e w1 ⟨rfl, hb1⟩
 have HB1 := zwh HB0 hb1
 have HG1 := zwg ((hb1.block _ HZ0.out).trans h5.out)
 have j4 : Hid (w.heap.size < w1.heap.size) := zwg (Nat.lt_of_lt_of_le HZ0.out hb1.size)
 clear hb1
 generalize hok : V.jo d time l = ok at *
 have HOK := zwg hok
 clear hok
 rcases ok with _ | _
 ·go_wp2
  go_ret
  exact ⟨_, [], rfl, HRow.nil _ _, by rw [HOK.out]; rfl, HB1.out⟩
 ·have j0 : w1.cell? ⟨w.heap.size, 33, none⟩ = some (.slice va l.length vc) := by rw [cell_of_row w1 w.heap.size 33 _ _ _ HG1.out]; exact h4
  clear h4
  go_wp2_with fail
  clear j0
  go_loopw [5, 14] (fun ov iv wx => ∃ (k : Nat) (us : List (V.Hit × Sd)), k ≤ l.length /\ iv = .int .i64 k /\ HRow w1.heap.size wx ov us /\ us.map (·.1) = V.jh (xs.map (·.n)) l k /\ Below w1.heap.size w1 wx) (fun _ iv _ => l.length - (intOf iv).toNat)
  case atStart => exact ⟨0, [], Nat.zero_le _, rfl, HRow.nil _ _, rfl, zwj _ _⟩
  case round =>
   obtain ⟨k, us, hk, rfl, g5, g1, g6⟩ := hrel
   have g7 := zwg g5
   have h6 := zwg g1
   have HBX := zwg g6
   have HBW := zwh HB1 g6
   have HUL : Hid (us.length ≤ 100000) := zwg (by
     have h1 := V.zfs (xs.map (·.n)) l k
     rw [← g1, List.length_map, List.length_map] at h1
     have h2 : k * xs.length ≤ 100 * 1000 := Nat.mul_le_mul (by omega) HX.out
     omega)
   obtain ⟨oa, oc, j5⟩ := g5.row.slice
   subst j5
   clear g5 g1 g6
   by_cases hlt : k < l.length
   ·obtain ⟨h7, b, off, rfl, k2, h8⟩ := HL.out.at k hlt
    have g4 := zwg h7
    have HR := zwg (zk h8 HBW.out)
    have i1 : (0 : Int) ≤ (k : Int) := by omega
    have i2 : (k : Int) < (l.length : Int) := by omega
    have HST : Hid (V.jh (xs.map (·.n)) l (k + 1) = V.jh (xs.map (·.n)) l k ++ V.zae (xs.map (·.n)) k l[k]) := zwg (V.zqw hlt)
    have j6 : Hid ((V.zae (xs.map (·.n)) k l[k]).length ≤ 1000) := zwg (Nat.le_trans (V.zl2 _ _ _) (by simpa using HX.out))
    clear h7 h8
    generalize l[k] = c at *
    have hb2 : Below wr.heap.size wr (wr.alloc (.cells (ccells c) 60)) := (zwj _ wr).alloc (zwi _) _
    have h0 := zwg (g7.out.below hb2)
    have HB2 := zwh HBX hb2
    have g8 := zwh HBW hb2
    have j7 := zwg (zcq c wr 60)
    clear hb2
    go_wp2_with (first
      | (refine zc7 rfl _ rfl b (off + k * 36) rfl c g4.out HR.out ?_)
      | (refine zfw rfl _ _ rfl _ _ rfl c g4.out rfl rfl ?_
         generalize wr.alloc (.cells (ccells c) 60) = w2 at *
         generalize wr.heap.size = X at *)
      | (refine zc7 rfl _ rfl X 0 rfl c g4.out j7.out ?_)
      | fail)
    refine (hits_any k c (.slice na xs.length nc) xs w2 (HM.out.below g8.out) g4.out (j2.out.below g8.out) HX.out g4.out.ver).mono ?_
    rintro e w3 ⟨k3, us1, rfl, g2, g0, hb3⟩
    have g3 := zwg (h0.out.below hb3)
    have HB3 := zwh HB2 hb3
    have h9 := zwg g2
    have j8 := zwg g0
    have j9 : Hid (us1.length ≤ 1000) := zwg (by have := j6.out; rw [← g0, List.length_map] at this; exact this)
    obtain ⟨ha, hc, k0⟩ := g2.row.slice
    subst k0
    clear g2 g0 hb3
    go_wp2_with (first
      | (refine xj uo (by decide) zje zjw (by decide) rfl _ _ 35 rfl Tryz.underlying35 w1.heap.size (.slice oa us.length oc) us rfl g3.out.row (.slice ha us1.length hc) us1 rfl (GRow.gsl uo h9.out.row) (by have := HUL.out; have := j9.out; omega) HB3.out.size ?_
         intro v8 w8 hr8 hg8 _)
      | fail)
    have HR8 := zwg (g3.out.append h9.out.each hr8 hg8)
    have HB8 : Hid (Below w1.heap.size w1 w8) := zwg (HB3.out.grown hg8 HB3.out.size (fun b hb => g3.out.row.block b hb))
    have k1 : Hid ((us ++ us1).map (·.1) = V.jh (xs.map (·.n)) l (k + 1)) := zwg (by rw [List.map_append, h6.out, j8.out, HST.out])
    clear hr8 hg8
    go_wp2
    go_roundw
    case rel => exact ⟨k + 1, _, by omega, by go_num, HR8.out, k1.out, HB8.out⟩
    case measure => simp [intOf]; omega
   ·obtain rfl : k = l.length := by omega
    go_wp2
    go_ret
    exact ⟨_, us, rfl, g7.out.weaken (Nat.le_of_lt j4.out), by rw [HOK.out]; unfold V.kx; rw [if_pos rfl]; exact h6.out, HBW.out⟩
open Go.RowKit
open Go.RowKit
open Go.RowKit
namespace V
theorem zvx (l : List Note) : (zdn l).length ≤ l.length := by
 have := za3 (c := cmpI) (l := []) (xs := l.map (·.doc))
 unfold zdn
 simp at this
 exact this
end V
theorem Strs.atS {w : World} {a : Option Addr} {n cap : Nat} {l : List V.Bs} (h : Strs w (.slice a n cap) l) (j : Nat) (hj : j < l.length) : ∃ g off, a = some ⟨g, off, none⟩ /\ g < w.heap.size /\ w.cell? ⟨g, off + j, none⟩ = some (.string ⟨l[j].toArray⟩) := by
 obtain ⟨a', c, e, hc⟩ := h
 cases e
 exact hc j hj
open Go.RowKit
structure CFix (n : Int) (s ver : V.Bs) (A B C : Nat) (w : World) : Prop where
 m : zj w
 len : ver.length ≤ maxLen
 a : w.heap[A]? = some (.cells #[.int .i64 n] 3 (0, 0))
 b : w.heap[B]? = some (.cells #[.string ⟨s.toArray⟩] 9 (0, 0))
 c : w.heap[C]? = some (.cells #[.string ⟨ver.toArray⟩] 9 (0, 0))
theorem CFix.below {n : Int} {s ver : V.Bs} {A B C : Nat} {w w' : World} (h : CFix n s ver A B C w) (hb : Below w.heap.size w w') : CFix n s ver A B C w' :=
 ⟨h.m.below hb, h.len, (hb.block _ (Array.getElem?_eq_some_iff.1 h.a).1).trans h.a, (hb.block _ (Array.getElem?_eq_some_iff.1 h.b).1).trans h.b, (hb.block _ (Array.getElem?_eq_some_iff.1 h.c).1).trans h.c⟩
theorem covF_any (x : NV) (n : Int) (s ver : V.Bs) (A B C : Nat) (w : World) (hf : CFix n s ver A B C w) (hx : NOk w x) :
  Calls Tryz.prog 47 #[.agg (ncells x), .pointer (some ⟨A, 0, none⟩), .pointer (some ⟨B, 0, none⟩), .pointer (some ⟨C, 0, none⟩)] w fun e w' => e = .returned (.bool (V.covP x.n.adv n s ver)) /\ Below w.heap.size w w' := by
 obtain ⟨W0, hW0⟩ : ∃ W0, W0 = w.alloc (.cells (ncells x) 57) := ⟨_, rfl⟩
 have g0 : Below w.heap.size w W0 := by rw [hW0]; exact (zwj w.heap.size w).alloc (zwi _) _
 obtain ⟨n0, n1, n2, n3, _, _⟩ := xh hx.doc (uf (show W0.heap[w.heap.size]? = some (.cells (ncells x) 57 (0, 0)) from by rw [hW0]; exact heap_alloc_new w _))
 simp only [Nat.zero_add] at n0 n1 n2 n3
 have HB0 := zwg g0
 have HF := zwg (hf.below g0)
 have HX := zwg (hx.below g0)
 have a0 : W0.cell? ⟨A, 0, none⟩ = some (.int .i64 n) := by rw [cell_of_row _ _ _ _ _ _ HF.out.a]; rfl
 have b0 : W0.cell? ⟨B, 0, none⟩ = some (.string ⟨s.toArray⟩) := by rw [cell_of_row _ _ _ _ _ _ HF.out.b]; rfl
 have c0 : W0.cell? ⟨C, 0, none⟩ = some (.string ⟨ver.toArray⟩) := by rw [cell_of_row _ _ _ _ _ _ HF.out.c]; rfl
 subst hW0
 clear hf hx g0
 generalize ncells x = nc at *
 go_enter Tryz.func47, Tryz.ntmps47
 go_wp2_with fail
 refine (zez x.n.adv x.u n s ver _ HF.out.m HX.out.affs HX.out.id HX.out.len HF.out.len).mono ?_
 rintro e w1 ⟨rfl, hb1⟩
 have HB1 := zwh HB0 hb1
 clear hb1 n0 n1 n2 n3 a0 b0 c0
 go_wp2
 go_ret
 exact ⟨rfl, HB1.out⟩
theorem nidx_any (n : Int) (s ver : V.Bs) (A B C : Nat) (v : Value) (xs : List NV) (w : World) (hf : CFix n s ver A B C w) (hr : Notes w v xs) (hl : xs.length ≤ 1000000) :
  Calls Tryz.prog 82 #[v, .func (.func 47) #[] #[.pointer (some ⟨A, 0, none⟩), .pointer (some ⟨B, 0, none⟩), .pointer (some ⟨C, 0, none⟩)]] w fun e w' => ∃ i : Int, e = .returned (.int .i64 i) /\ Below w.heap.size w w' /\ decide (0 ≤ i) = (xs.any fun x => V.covP x.n.adv n s ver) := by
 have HF := zwg hf
 have HV := zwg hr
 obtain ⟨va, vc, rfl⟩ := hr.slice
 clear hf hr
 go_enter Tryz.func82, Tryz.ntmps82
 go_wp2
 go_loopw [8] (fun jv wx => ∃ j : Nat, j ≤ xs.length /\ jv = .int .i64 j /\ (∀ i (h : i < xs.length), i < j -> V.covP xs[i].n.adv n s ver = false) /\ Below w.heap.size w wx) (fun jv _ => xs.length - (intOf jv).toNat)
 case atStart => exact ⟨0, Nat.zero_le _, rfl, fun j h hj => absurd hj (by omega), zwj _ _⟩
 case round =>
  obtain ⟨k, hk, rfl, g0, hb⟩ := hrel
  have HB := zwg hb
  have HNO := zwg g0
  clear hb g0
  by_cases hlt : k < xs.length
  ·obtain ⟨hok, g, off, hpa, hg, hr⟩ := (HV.out.below HB.out).at k hlt
   subst hpa
   have HOK := zwg hok
   have i1 : (0 : Int) ≤ (k : Int) := by omega
   have i2 : (k : Int) < (xs.length : Int) := by omega
   obtain ⟨x, hx⟩ : ∃ x, x = xs[k] := ⟨_, rfl⟩
   rw [← hx] at HOK hr
   have HR := zwg hr
   have HX := zwg hx
   clear hx hok hr
   go_wp2_with (first | (refine zp5 rfl _ rfl g (off + k * 37) rfl x HOK.out.doc HR.out ?_) | fail)
   refine (covF_any x n s ver A B C wr (HF.out.below HB.out) HOK.out).mono ?_
   rintro e w2 ⟨rfl, hb2⟩
   have HB2 := zwh HB hb2
   clear hb2
   generalize ncells x = nc at *
   rcases hc : V.covP x.n.adv n s ver with _ | _
   ·have g1 : Hid (∀ j (h : j < xs.length), j < k + 1 -> V.covP xs[j].n.adv n s ver = false) := zwg (fun j h hj => by
      by_cases e : j = k
      · subst e; rw [← HX.out]; exact hc
      · exact HNO.out j h (by omega))
    clear hc
    go_wp2
    go_roundw
    case rel => exact ⟨k + 1, by omega, by go_num, g1.out, HB2.out⟩
    case measure => simp [intOf]; omega
   ·have HR : Hid ((xs.any fun x => V.covP x.n.adv n s ver) = true) := zwg (List.any_eq_true.2 ⟨x, by rw [HX.out]; exact List.getElem_mem _, hc⟩)
    clear hc
    go_wp2
    go_ret
    exact ⟨k, rfl, HB2.out, by rw [HR.out, decide_eq_true (by omega)]⟩
  ·obtain rfl : k = xs.length := by omega
   have i2 : ¬ (xs.length : Int) < (xs.length : Int) := by omega
   have HR : Hid ((xs.any fun x => V.covP x.n.adv n s ver) = false) := zwg (any_no (fun j hj => HNO.out j hj hj))
   go_wp2
   go_ret
   exact ⟨-1, rfl, HB.out, by rw [HR.out]; rfl⟩
theorem zl1 (n : Int) (s ver : V.Bs) (A B C : Nat) (v : Value) (xs : List NV) (w : World) (hf : CFix n s ver A B C w) (hr : Notes w v xs) (hl : xs.length ≤ 1000000) :
  Calls Tryz.prog 49 #[v, .func (.func 47) #[] #[.pointer (some ⟨A, 0, none⟩), .pointer (some ⟨B, 0, none⟩), .pointer (some ⟨C, 0, none⟩)]] w fun e w' => e = .returned (.bool (xs.any fun x => V.covP x.n.adv n s ver)) /\ Below w.heap.size w w' := by
 have HF := zwg hf
 have HV := zwg hr
 clear hf hr
 go_enter Tryz.func49, Tryz.ntmps49
 go_wp2_with fail
 refine (nidx_any n s ver A B C v xs w HF.out HV.out hl).mono ?_
 rintro e w1 ⟨i, rfl, hb, hi⟩
 have HI := zwg hi
 have HB := zwg hb
 clear hi hb
 go_wp2
 go_ret
 exact ⟨by rw [← HI.out]; rfl, HB.out⟩
namespace V
def abv (n : Int) (a b : Bs) : Bool := decide ((zw n a b).2 = 0) && decide (0 < (zw n a b).1)
def zc4 (n : Int) (s cur : Bs) (ys : List Note) (st : Bs × Bool) (v : Bs) : Bs × Bool :=
 if (!abv n v cur || (st.2 && !abv n st.1 v)) = true then st else if (ys.any fun x => covP x.adv n s v) = true then st else (v, true)
def upTo (n : Int) (s cur : Bs) (ys : List Note) (vs : List Bs) (k : Nat) : Bs × Bool := (vs.take k).foldl (zc4 n s cur ys) ([], false)
theorem zel {n : Int} {s cur : Bs} {ys : List Note} {vs : List Bs} {k : Nat} (h : k < vs.length) : upTo n s cur ys vs (k + 1) = zc4 n s cur ys (upTo n s cur ys vs k) vs[k] := by
 unfold upTo
 rw [List.take_succ_eq_append_getElem h, List.foldl_append]
 rfl
theorem zkd {n : Int} {s cur : Bs} {ys : List Note} {vs : List Bs} {m : Nat} (h : ∀ v ∈ vs, v.length ≤ m) : ∀ {k : Nat}, (upTo n s cur ys vs k).1.length ≤ m
 | 0 => by simp [upTo]
 | k + 1 => by
  have ih := zkd (n := n) (s := s) (cur := cur) (ys := ys) h (k := k)
  by_cases hk : k < vs.length
  ·rw [zel hk]
   unfold zc4
   split
   ·exact ih
   ·split
    ·exact ih
    ·exact h _ (List.getElem_mem hk)
  ·unfold upTo at *
   rw [List.take_of_length_le (by omega)] at *
   exact ih
end V
theorem zyc {P : Prop} (h : P := by
 have HE9 : Hid (V.upTo n s cur ys vs (k + 1) = (y, true)) := zwg (by rw [HE.out, hcv]; rfl)
 clear hcv
 go_wp2
 go_roundw
 case rel => exact ⟨k + 1, y, true, by omega, by go_num, rfl, rfl, HE9.out, HB9.out⟩
 case measure => simp [intOf]; omega) : P := h
theorem zyd {P : Prop} (h : P := by
 go_wp2
 go_roundw
 case rel => exact ⟨k + 1, b, f, by omega, by go_num, rfl, rfl, HE.out, HB3.out⟩
 case measure => simp [intOf]; omega) : P := h
theorem zbv (v : Value) (xs : List NV) (n : Int) (s cur : V.Bs) (sv : Value) (vs : List V.Bs) (w : World) (hm : zj w) (hv : Notes w v xs) (hl : xs.length ≤ 1000000) (hc : cur.length ≤ maxLen) (hs : Strs w sv vs) (hsl : vs.length ≤ 1000000) (h0 : ∀ x ∈ vs, x.length ≤ maxLen) :
  Calls Tryz.prog 27 #[v, .int .i64 n, .string ⟨s.toArray⟩, .string ⟨cur.toArray⟩, sv] w fun e w' => e = .returned (.tuple #[.string ⟨(V.upTo n s cur (xs.map (·.n)) vs vs.length).1.toArray⟩, .bool (V.upTo n s cur (xs.map (·.n)) vs vs.length).2]) /\ Below w.heap.size w w' := by
 have g2 : Below w.heap.size w ((w.alloc (.cells #[.int .i64 n] 3)).alloc (.cells #[.string ⟨s.toArray⟩] 9)) := ((zwj _ w).alloc (zwi _) _).alloc (by simp) _
 obtain ⟨W0, hW0⟩ : ∃ W0, W0 = (w.alloc (.cells #[.int .i64 n] 3)).alloc (.cells #[.string ⟨s.toArray⟩] 9) := ⟨_, rfl⟩
 rw [← hW0] at g2
 have HB0 := zwg g2
 have HM := zwg (hm.below g2)
 have HV := zwg (hv.below g2)
 have HS := zwg (hs.below g2)
 have HC := zwg hc
 have g5 := zwg h0
 have HA : Hid (W0.heap[w.heap.size]? = some (.cells #[.int .i64 n] 3 (0, 0))) := zwg (by rw [hW0, heap_alloc, if_neg (by simp), heap_alloc, if_pos rfl])
 have HBB : Hid (W0.heap[w.heap.size + 1]? = some (.cells #[.string ⟨s.toArray⟩] 9 (0, 0))) := zwg (by rw [hW0, heap_alloc, if_pos (by simp)])
 have HW := zwg hW0
 obtain ⟨sa, sc, rfl⟩ := hs.slice
 clear hm hv hs hc h0 g2 hW0
 go_enter Tryz.func27, Tryz.ntmps27
 go_wp2_with fail
 rw [← HW.out]
 have hv9 : ∀ x ∈ vs, x.length ≤ maxLen := g5.out
 generalize g6 : xs.map (·.n) = ys
 have h1 : Hid (∀ y, (ys.any fun x => V.covP x.adv n s y) = (xs.any fun x => V.covP x.n.adv n s y)) := zwg (fun y => by rw [← g6, List.any_map]; rfl)
 have h4 := zwg g6
 clear g6 hv9
 go_loopw [12, 13, 19] (fun bv fv iv wx => ∃ (k : Nat) (b : V.Bs) (f : Bool), k ≤ vs.length /\ iv = .int .i64 k /\ bv = .string ⟨b.toArray⟩ /\ fv = .bool f /\ V.upTo n s cur ys vs k = (b, f) /\ Below W0.heap.size W0 wx) (fun _ _ iv _ => vs.length - (intOf iv).toNat)
 case atStart => exact ⟨0, [], false, Nat.zero_le _, rfl, rfl, rfl, rfl, zwj _ _⟩
 case round =>
  obtain ⟨k, b, f, hk, rfl, rfl, rfl, g4, g3⟩ := hrel
  have h5 := zwg g4
  have HBX := zwg g3
  by_cases hlt : k < vs.length
  ·obtain ⟨g, off, h6, hg, hc⟩ := HS.out.atS k hlt
   subst h6
   have h2 := (g3.cell (p := ⟨g, off + k, none⟩) hg).trans hc
   obtain ⟨y, hy⟩ : ∃ y, y = vs[k] := ⟨_, rfl⟩
   have g7 : Hid (y.length ≤ maxLen) := zwg (by rw [hy]; exact g5.out _ (List.getElem_mem hlt))
   have h7 : Hid (b.length ≤ maxLen) := zwg (by have := V.zkd (n := n) (s := s) (cur := cur) (ys := ys) g5.out (k := k); rw [g4] at this; exact this)
   have HST : Hid (V.upTo n s cur ys vs (k + 1) = V.zc4 n s cur ys (b, f) y) := zwg (by rw [V.zel hlt, g4, hy])
   rw [← hy] at h2
   have hb2 : Below wr.heap.size wr (wr.alloc (.cells #[.string ⟨y.toArray⟩] 9)) := (zwj _ wr).alloc (zwi _) _
   have HB2 := zwg (g3.trans (hb2.mono g3.size))
   have HF2 : Hid (CFix n s y w.heap.size (w.heap.size + 1) wr.heap.size (wr.alloc (.cells #[.string ⟨y.toArray⟩] 9))) := zwg ⟨HM.out.below HB2.out, g7.out, (HB2.out.block _ (Array.getElem?_eq_some_iff.1 HA.out).1).trans HA.out, (HB2.out.block _ (Array.getElem?_eq_some_iff.1 HBB.out).1).trans HBB.out, heap_alloc_new wr _⟩
   have a0 : (wr.alloc (.cells #[.string ⟨y.toArray⟩] 9)).cell? ⟨w.heap.size, 0, none⟩ = some (.int .i64 n) := by rw [cell_of_row _ _ _ _ _ _ HF2.out.a]; rfl
   have i1 : (0 : Int) ≤ (k : Int) := by omega
   have i2 : (k : Int) < (vs.length : Int) := by omega
   have h8 : k < 1000000 := by omega
   clear hy hc hb2 g4 g3
   go_wp2_with fail
   clear h2
   generalize wr.alloc (.cells #[.string ⟨y.toArray⟩] 9) = w2 at *
   generalize wr.heap.size = C at *
   refine (zmx n y cur w2 HF2.out.m g7.out HC.out).mono ?_
   rintro e w3 ⟨rfl, hb3⟩
   have HF3 := zwg (HF2.out.below hb3)
   have HB3 := zwh HB2 hb3
   have a0 : w3.cell? ⟨w.heap.size, 0, none⟩ = some (.int .i64 n) := by rw [cell_of_row _ _ _ _ _ _ HF3.out.a]; rfl
   have c0 : w3.cell? ⟨C, 0, none⟩ = some (.string ⟨y.toArray⟩) := by rw [cell_of_row _ _ _ _ _ _ HF3.out.c]; rfl
   clear hb3
   rw [show (decide ((V.zw n y cur).2 = 0) && decide (0 < (V.zw n y cur).1)) = V.abv n y cur from rfl]
   rcases g0 : V.abv n y cur with _ | _
   ·have HE : Hid (V.upTo n s cur ys vs (k + 1) = (b, f)) := zwg (by rw [HST.out]; unfold V.zc4; rw [g0, if_pos (by simp)])
    clear g0
    exact zyd
   ·rcases f with _ | _
    ·have HE : Hid (V.upTo n s cur ys vs (k + 1) = if (ys.any fun x => V.covP x.adv n s y) = true then (b, false) else (y, true)) := zwg (by rw [HST.out]; unfold V.zc4; rw [g0, if_neg (by simp)])
     clear g0
     go_wp2_with fail
     refine (zl1 n s y w.heap.size (w.heap.size + 1) C v xs w3 HF3.out (HV.out.below HB3.out) hl).mono ?_
     rintro e w9 ⟨rfl, g1⟩
     rw [← h1.out]
     have g8 := zwg (HF3.out.below g1)
     have HB9 := zwh HB3 g1
     have c0 : w9.cell? ⟨C, 0, none⟩ = some (.string ⟨y.toArray⟩) := by rw [cell_of_row _ _ _ _ _ _ g8.out.c]; rfl
     clear g1
     rcases hcv : (ys.any fun x => V.covP x.adv n s y) with _ | _
     ·exact zyc
     ·have HE9 : Hid (V.upTo n s cur ys vs (k + 1) = (b, false)) := zwg (by rw [HE.out, hcv]; rfl)
      clear hcv
      go_wp2
      go_roundw
      case rel => exact ⟨k + 1, b, false, by omega, by go_num, rfl, rfl, HE9.out, HB9.out⟩
      case measure => simp [intOf]; omega
    ·have HST2 : Hid (V.upTo n s cur ys vs (k + 1) = if (!V.abv n b y) = true then (b, true) else if (ys.any fun x => V.covP x.adv n s y) = true then (b, true) else (y, true)) := zwg (by rw [HST.out]; unfold V.zc4; rw [g0]; rfl)
     clear g0
     go_wp2_with fail
     refine (zmx n b y w3 HF3.out.m h7.out g7.out).mono ?_
     rintro e w4 ⟨rfl, g9⟩
     have h3 := zwg (HF3.out.below g9)
     have HB4 := zwh HB3 g9
     rw [show (decide ((V.zw n b y).2 = 0) && decide (0 < (V.zw n b y).1)) = V.abv n b y from rfl]
     clear g9 a0 c0
     rcases g0 : V.abv n b y with _ | _
     ·have HE : Hid (V.upTo n s cur ys vs (k + 1) = (b, true)) := zwg (by rw [HST2.out, g0]; rfl)
      clear g0
      go_wp2
      go_roundw
      case rel => exact ⟨k + 1, b, true, by omega, by go_num, rfl, rfl, HE.out, HB4.out⟩
      case measure => simp [intOf]; omega
     ·have HE : Hid (V.upTo n s cur ys vs (k + 1) = if (ys.any fun x => V.covP x.adv n s y) = true then (b, true) else (y, true)) := zwg (by rw [HST2.out, g0]; rfl)
      clear g0
      go_wp2_with fail
      refine (zl1 n s y w.heap.size (w.heap.size + 1) C v xs w4 h3.out (HV.out.below HB4.out) hl).mono ?_
      rintro e w9 ⟨rfl, g1⟩
      rw [← h1.out]
      have g8 := zwg (h3.out.below g1)
      have HB9 := zwh HB4 g1
      have c0 : w9.cell? ⟨C, 0, none⟩ = some (.string ⟨y.toArray⟩) := by rw [cell_of_row _ _ _ _ _ _ g8.out.c]; rfl
      clear g1
      rcases hcv : (ys.any fun x => V.covP x.adv n s y) with _ | _
      ·exact zyc
      ·have HE9 : Hid (V.upTo n s cur ys vs (k + 1) = (b, true)) := zwg (by rw [HE.out, hcv]; rfl)
       clear hcv
       go_wp2
       go_roundw
       case rel => exact ⟨k + 1, b, true, by omega, by go_num, rfl, rfl, HE9.out, HB9.out⟩
       case measure => simp [intOf]; omega
  ·obtain rfl : k = vs.length := by omega
   have HE : Hid (V.upTo n s cur ys vs vs.length = (b, f)) := h5
   clear g4 g3
   go_wp2
   go_ret2
   exact ⟨by rw [h4.out, HE.out]; rfl, HB0.out.trans (HBX.out.mono HB0.out.size)⟩
end Go.Proofs.YtbikeahmldobkaaGreatDoor
