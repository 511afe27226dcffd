/-
  Lemmas for the law.
-/
import Derived.Test.YtbikeahmldobkaaGreatDoorC41x12
import Derived.Test.YtbikeahmldobkaaGreatDoorC41x13
import Derived.Test.YtbikeahmldobkaaGreatDoorC41x40
set_option linter.all false
set_option maxRecDepth 100000
set_option maxHeartbeats 6400000
namespace Go.Proofs.YtbikeahmldobkaaGreatDoor
open Go.RowKit
theorem jg : (Tryz.prog.info? 29).map (·.size) = some 34 := by kernel_rfl
theorem qo {d : List Int} (hd : d.length = 32) (time : Int) (v : Value) : (icells d time v).size = 34 := by
 unfold icells zk
 simp [hd]
theorem zmj {d : List Int} {time : Int} {v : Value} (hv : v.oneCell' = true) : (icells d time v).all (·.oneCell') = true := by
 rw [Array.all_eq_true_iff_forall_mem]
 intro u hu
 unfold icells zk at hu
 simp at hu
 rcases hu with ⟨n, _, rfl⟩ | rfl | rfl
 ·rfl
 ·rfl
 ·exact hv
theorem zero_inv : (#[Value.int .u8 0, .int .u8 0, .int .u8 0, .int .u8 0, .int .u8 0, .int .u8 0, .int .u8 0, .int .u8 0, .int .u8 0, .int .u8 0, .int .u8 0, .int .u8 0, .int .u8 0, .int .u8 0, .int .u8 0, .int .u8 0, .int .u8 0, .int .u8 0, .int .u8 0, .int .u8 0, .int .u8 0, .int .u8 0, .int .u8 0, .int .u8 0, .int .u8 0, .int .u8 0, .int .u8 0, .int .u8 0, .int .u8 0, .int .u8 0, .int .u8 0, .int .u8 0, .int .i64 0, .slice none 0 0] : Array Value) = icells qh 0 (.slice none 0 0) := rfl
open Go.RowKit
theorem HRow.append {N : Nat} {w w' : World} {v v' : Value} {us us1 : List (V.Hit × Sd)} (h : HRow N w v us) (h1 : ∀ p ∈ us1, Digs w p.2.v p.1.docs) (hr : GRow 63 4 hE w' N v' (us ++ us1)) (hg : w.grownBy w' v.ownBlock) : HRow N w' v' (us ++ us1) :=
 ⟨hr, fun p hp => by
   have hd : Digs w p.2.v p.1.docs := by
     rcases List.mem_append.1 hp with hp | hp
     · exact h.each p hp
     · exact h1 p hp
   exact hd.grow hg (fun b e => by
     obtain ⟨cs, hcs⟩ := jt h.row e
     exact ⟨cs, _, _, hcs, by decide⟩)⟩
namespace V
theorem zhb (xs : List Note) (i : Int) (c : Comp) : (um xs i c).length ≤ xs.length := by
 unfold um jk idsN
 rw [List.length_map]
 have h1 := yv (c := Lib.compareBytes) (l := []) (xs := (xs.filter fun x => cov x c).map (·.adv.id))
 have h2 := List.length_filter_le (fun x => cov x c) xs
 simp at h1
 omega
theorem wj (xs : List Note) (l : List Comp) : ∀ k, (qu xs l k).length ≤ k * xs.length
 | 0 => by simp [qu]
 | k + 1 => by
  have ih := wj xs l k
  rw [qu, List.length_append, Nat.succ_mul]
  split
  ·rename_i c _
   have := zhb xs k c
   omega
  ·simp; omega
end V
def zkm (ok : Bool) (ys : List V.Note) (l : List V.Comp) (w : World) (e : Ending) (w' : World) : Prop := ∃ v' us, e = .returned v' /\ HRow w.heap.size w' v' us /\ us.map (·.1) = V.jq ok ys l /\ Below w.heap.size w w'
theorem ze5 (d : List Int) (time : Int) (v : Value) (l : List V.Comp) (nv : Value) (xs : List NV) (w : World) (hm : zm w) (hd : d.length = 32) (hdw : ∀ n ∈ d, (Lit.int .u8 n).wf = true) (hv : Comps w v l) (hl : l.length ≤ 100) (hn : Notes w nv xs) (hx : xs.length ≤ 1000) :
  Calls Tryz.prog 17 #[.agg (icells d time v), nv] w (zkm (V.qc d time l) (xs.map (·.n)) l w) := by
 have HM := zpa hm
 have HL := zpa hv
 have HD := zpa hd
 have HDW := zpa hdw
 have HNV := zpa hn
 have HX := zpa hx
 have h33 := xq hd time v
 have HSZ := zpa (qo hd time v)
 obtain ⟨va, vc, rfl, hjunk⟩ := hv
 obtain ⟨na, nc, rfl⟩ := hn.slice
 obtain ⟨W0, hW0⟩ : ∃ W0, W0 = w.alloc (.cells (icells d time (.slice va l.length vc)) 29) := ⟨_, rfl⟩
 have HB0 : Hid (Below w.heap.size w W0) := zpa (by rw [hW0]; exact (zpd w.heap.size w).alloc (zpc _) _)
 have HG0 : Hid (W0.heap[w.heap.size]? = some (.cells (icells d time (.slice va l.length vc)) 29 (0, 0))) := zpa (by rw [hW0]; exact heap_alloc_new w _)
 have HZ0 : Hid (w.heap.size < W0.heap.size) := zpa (by rw [hW0]; simp)
 have HW := zpa hW0
 clear hd hdw hjunk hm hn hx hW0
 go_enter Tryz.func17, Tryz.ntmps17
 go_wp2_with (first | (rw [← HW.out]; refine wpList_load_row rfl _ _ rfl w.heap.size rfl _ (icells d time (.slice va l.length vc)) (0, 0) _ HG0.out Tryz.underlying29 rfl (by rw [jg, HSZ.out]) ?_) | fail)
 refine (zd2 d time (.slice va l.length vc) l _ (HM.out.below HB0.out) HD.out HDW.out (HL.out.below HB0.out) (by unfold maxLen; omega)).mono ?_
 rintro e w1 ⟨rfl, hb1⟩
 have HB1 := zpb HB0 hb1
 have HG1 := zpa ((hb1.block _ HZ0.out).trans HG0.out)
 have HZ1 : Hid (w.heap.size < w1.heap.size) := zpa (Nat.lt_of_lt_of_le HZ0.out hb1.size)
 clear hb1
 generalize hok : V.qc d time l = ok at *
 have HOK := zpa hok
 clear hok
 rcases ok with _ | _
 ·go_wp2
  go_ret
  exact ⟨_, [], rfl, HRow.nil _ _, by rw [HOK.out]; rfl, HB1.out⟩
 ·have hc33 : w1.cell? ⟨w.heap.size, 33, none⟩ = some (.slice va l.length vc) := by rw [cell_of_row w1 w.heap.size 33 _ _ _ HG1.out]; exact h33
  clear h33
  go_wp2_with fail
  clear hc33
  go_loopw [5, 14] (fun ov iv wx => ∃ (k : Nat) (us : List (V.Hit × Sd)), k ≤ l.length /\ iv = .int .i64 k /\ HRow w1.heap.size wx ov us /\ us.map (·.1) = V.qu (xs.map (·.n)) l k /\ Below w1.heap.size w1 wx) (fun _ iv _ => l.length - (intOf iv).toNat)
  case atStart => exact ⟨0, [], Nat.zero_le _, rfl, HRow.nil _ _, rfl, zpd _ _⟩
  case round =>
   obtain ⟨k, us, hk, rfl, hrow, hsaid, hbx⟩ := hrel
   have HROW := zpa hrow
   have HSD := zpa hsaid
   have HBX := zpa hbx
   have HBW := zpb HB1 hbx
   have HUL : Hid (us.length ≤ 100000) := zpa (by
     have h1 := V.wj (xs.map (·.n)) l k
     rw [← hsaid, List.length_map, List.length_map] at h1
     have h2 : k * xs.length ≤ 100 * 1000 := Nat.mul_le_mul (by omega) HX.out
     omega)
   obtain ⟨oa, oc, hov⟩ := hrow.row.slice
   subst hov
   clear hrow hsaid hbx
   by_cases hlt : k < l.length
   ·obtain ⟨hxw, b, off, rfl, hblt, hxr⟩ := HL.out.at k hlt
    have HCW := zpa hxw
    have HR := zpa (zh hxr HBW.out)
    have i1 : (0 : Int) ≤ (k : Int) := by omega
    have i2 : (k : Int) < (l.length : Int) := by omega
    have HST : Hid (V.qu (xs.map (·.n)) l (k + 1) = V.qu (xs.map (·.n)) l k ++ V.um (xs.map (·.n)) k l[k]) := zpa (V.zdz hlt)
    have HLC : Hid ((V.um (xs.map (·.n)) k l[k]).length ≤ 1000) := zpa (Nat.le_trans (V.zhb _ _ _) (by simpa using HX.out))
    clear hxw hxr
    generalize l[k] = c at *
    have hb2 : Below wr.heap.size wr (wr.alloc (.cells (ccells c) 60)) := (zpd _ wr).alloc (zpc _) _
    have HROW2 := zpa (HROW.out.below hb2)
    have HB2 := zpb HBX hb2
    have HBW2 := zpb HBW hb2
    have HRC := zpa (vd c wr 60)
    clear hb2
    go_wp2_with (first
      | (refine vt rfl _ rfl b (off + k * 36) rfl c HCW.out HR.out ?_)
      | (refine zb7 rfl _ _ rfl _ _ rfl c HCW.out rfl rfl ?_
         generalize wr.alloc (.cells (ccells c) 60) = w2 at *
         generalize wr.heap.size = X at *)
      | (refine vt rfl _ rfl X 0 rfl c HCW.out HRC.out ?_)
      | fail)
    refine (hits_any k c (.slice na xs.length nc) xs w2 (HM.out.below HBW2.out) HCW.out (HNV.out.below HBW2.out) HX.out HCW.out.ver).mono ?_
    rintro e w3 ⟨hvv, us1, rfl, hrow1, hsaid1, hb3⟩
    have HROW3 := zpa (HROW2.out.below hb3)
    have HB3 := zpb HB2 hb3
    have HR1 := zpa hrow1
    have HS1 := zpa hsaid1
    have HL1 : Hid (us1.length ≤ 1000) := zpa (by have := HLC.out; rw [← hsaid1, List.length_map] at this; exact this)
    obtain ⟨ha, hc, hhv⟩ := hrow1.row.slice
    subst hhv
    clear hrow1 hsaid1 hb3
    go_wp2_with (first
      | (refine ud xk (by decide) zc3 zhm (by decide) rfl _ _ 35 rfl Tryz.underlying35 w1.heap.size (.slice oa us.length oc) us rfl HROW3.out.row (.slice ha us1.length hc) us1 rfl (GRow.gsl xk HR1.out.row) (by have := HUL.out; have := HL1.out; omega) HB3.out.size ?_
         intro v8 w8 hr8 hg8 _)
      | fail)
    have HR8 := zpa (HROW3.out.append HR1.out.each hr8 hg8)
    have HB8 : Hid (Below w1.heap.size w1 w8) := zpa (HB3.out.grown hg8 HB3.out.size (fun b hb => HROW3.out.row.block b hb))
    have HS8 : Hid ((us ++ us1).map (·.1) = V.qu (xs.map (·.n)) l (k + 1)) := zpa (by rw [List.map_append, HSD.out, HS1.out, HST.out])
    clear hr8 hg8
    go_wp2
    go_roundw
    case rel => exact ⟨k + 1, _, by omega, by go_num, HR8.out, HS8.out, HB8.out⟩
    case measure => simp [intOf]; omega
   ·obtain rfl : k = l.length := by omega
    go_wp2
    go_ret
    exact ⟨_, us, rfl, HROW.out.weaken (Nat.le_of_lt HZ1.out), by rw [HOK.out]; unfold V.jq; rw [if_pos rfl]; exact HSD.out, HBW.out⟩
open Go.RowKit
namespace V
end V
theorem zer : (Tryz.prog.info? 3).map (fun i => (i.zero, i.size, i.bytes)) = some (some (.int .i64 0), 1, 8) := by kernel_rfl
open Go.RowKit Go.Shelf
attribute [local go_sem] Oper.semAt_some
def ZRow (w : World) (N : Nat) (v : Value) (l : List Int) : Prop := w.ownsRow N 3 1 v l.length (l.map (Value.int .i64))
theorem ZRow.nil (w : World) (N : Nat) : ZRow w N (.slice none 0 0) [] := ⟨rfl, .inl ⟨rfl, rfl⟩⟩
theorem ZRow.slice {w : World} {N : Nat} {v : Value} {l : List Int} (h : ZRow w N v l) : ∃ a cap, v = .slice a l.length cap := by
 exact zsa
theorem ZRow.block {w : World} {N : Nat} {v : Value} {l : List Int} (h : ZRow w N v l) : ∀ b, v.ownBlock = some b -> N ≤ b := by
 exact zr6
theorem ZRow.cellsAt {w : World} {N : Nat} {v : Value} {l : List Int} (h : ZRow w N v l) : ∀ g, v.ownBlock = some g -> ∃ cur, w.heap[g]? = some (.cells cur 3 (0, 0)) := by
 intro b hb
 rcases h.2 with ⟨rfl, _⟩ | ⟨g, cap, cur, rfl, _, hg, _⟩
 ·cases hb
 ·simp [Value.ownBlock] at hb
  subst hb
  exact ⟨cur, hg⟩
theorem ZRow.kept {w w' : World} {N : Nat} {v : Value} {l : List Int} (h : ZRow w N v l) {row : Option Nat} (hg : w.grownBy w' row) (hr : ∀ b, row = some b -> v.ownBlock ≠ some b) : ZRow w' N v l := by
 obtain ⟨hx, h⟩ := h
 refine ⟨hx, ?_⟩
 rcases h with h | ⟨g, cap, cur, rfl, hb, hgg, rest⟩
 ·exact .inl h
 ·refine .inr ⟨g, cap, cur, rfl, hb, ?_, rest⟩
  rw [hg.block g (Array.getElem?_eq_some_iff.1 hgg).1 (fun e => hr g e.symm rfl)]
  exact hgg
theorem ZRow.keeps {w w' : World} {N : Nat} {v : Value} {l : List Int} (h : ZRow w N v l) (hg : w.grownBy w' v.ownBlock) : KeepsOthers w w' :=
 ⟨hg.size, fun k o hk ho => (hg.block k (Array.getElem?_eq_some_iff.1 hk).1 (fun e => by
   obtain ⟨cur, hc⟩ := h.cellsAt k e.symm
   rw [hc] at hk
   cases hk
   cases ho)).trans hk⟩
def Zs (w : World) (v : Value) (l : List Int) : Prop :=
 ∃ a cap, v = .slice a l.length cap /\ ∀ j (h : j < l.length), ∃ b off, a = some ⟨b, off, none⟩ /\ b < w.heap.size /\ w.cell? ⟨b, off + j, none⟩ = some (.int .i64 l[j])
theorem Zs.nil (w : World) : Zs w (.slice none 0 0) [] := ⟨none, 0, rfl, fun j h => by simp at h⟩
theorem zan (g : Nat) : ∀ (vs : List Value) (o : Nat) (w : World), (w.setCells g o vs).heap.size = w.heap.size
 | [], _, _ => rfl
 | v :: r, o, w => by
  show ((w.setCell ⟨g, o, none⟩ v).setCells g (o + 1) r).heap.size = w.heap.size
  rw [zan g r]; simp
theorem ww {B g : Nat} {a : World} (hg : B ≤ g) : ∀ (vs : List Value) (o : Nat) (w : World), Below B a w -> Below B a (w.setCells g o vs)
 | [], _, _, h => h
 | v :: r, o, _, h => ww hg r (o + 1) _ (h.setCell (p := ⟨g, o, none⟩) hg v)
theorem zsm {P : Prop} (h : P := by
 intro v' w' ho' hg _
 refine h v' w' ?_ hg
 unfold ZRow
 rw [List.length_append, List.map_append]
 exact ho') : P := h
theorem zmp {F : Fence} {n : Nat} {ops : Array Oper} {rest : List Oper} {o : Oper} {a : Act} {w : World} {Q : Exit -> Act -> World -> Prop} (hgd : o.guard = none) (s x : Operand)
  (ho : o.op = .call { callee := .builtin .append, args := #[s, x], argTypes := #[22, 22] })
  (N : Nat) (v : Value) (l : List Int) (hs : a.eval s = v) (hown : ZRow w N v l) (b : Nat) (i : Int) (hx : a.eval x = .slice (some ⟨b, 0, none⟩) 1 1) (hr : w.cell? ⟨b, 0, none⟩ = some (.int .i64 i)) (hl : l.length ≤ 1000000) (hN : N ≤ w.heap.size)
  (h : ∀ v' w', ZRow w' N v' (l ++ [i]) -> w.grownBy w' v.ownBlock -> wpListIn F n Tryz.prog ops Q rest (a.put o.dst v') w') : wpListIn F n Tryz.prog ops Q (o :: rest) a w := by
 obtain ⟨i0, hi, hz0, hz1, hz2⟩ := info_parts zer
 refine wpListIn_append_own w hgd s x 22 ho N 3 i0 (.int .i64 0) 1 8 Tryz.underlying22 hi hz0 hz1 hz2 rfl (by decide) v l.length _ hs hown ⟨b, 0, none⟩ 1 1 [.int .i64 i] hx rfl ?_ ?_ (by unfold maxLen; omega) (by omega) hN ?_
 ·intro j u hj
  have : j = 0 := by
   have := (List.getElem?_eq_some_iff.1 hj).1
   simpa using this
  subst this
  rw [Addr.add_mid]
  simpa [hr] using hj
 ·intro u hu
  rw [List.mem_singleton.1 hu]; rfl
 ·exact zsm
theorem zj2 {F : Fence} {n : Nat} {ops : Array Oper} {rest : List Oper} {o : Oper} {a : Act} {w : World} {Q : Exit -> Act -> World -> Prop} (hgd : o.guard = none) (x : Operand) (ho : o.op = .load 29 x)
  (g : Nat) (t : TypeId) (hx : a.eval x = .pointer (some ⟨g, 0, none⟩)) (cs : Array Value) (hcs : cs.size = 34) (hgr : w.heap[g]? = some (.cells cs t (0, 0)))
  (h : wpListIn F n Tryz.prog ops Q rest (a.put o.dst (.agg cs)) w) : wpListIn F n Tryz.prog ops Q (o :: rest) a w := by
 refine wpListIn_plain hgd fun K hK => ?_
 have hrun : (execOp a.eval o).run Tryz.prog w = .ok (.value (.agg cs)) w := by
  unfold execOp
  simp only [ho, hx, Instr.loadAt, Instr.sureAddr, Sem.run_bind, Sem.run_pure, Result.andThen_ok, run_loadVar_row w g t 29 cs (0, 0) _ hgr Tryz.underlying29 rfl (by rw [jg, hcs])]
 unfold Oper.wpIn
 refine ⟨by simp [Oper.about, ho], ?_⟩
 rw [Oper.semAt_plain F _ _ (by rw [ho]; intro c hc'; cases hc'), hrun]
 exact hK _ _ h
open Go.RowKit Go.Shelf
attribute [local go_sem] Oper.semAt_some
theorem anc1_in (n : Nat) (hn : 1 ≤ n) (lp bX o : Nat) (v : Value) (l : List V.Comp) (ho : V.zy l l.length = true) (hl : l.length ≤ 100000) (i : Int) (hi : -1 ≤ i) (hil : i < l.length) (hox : o ≠ bX) (hox1 : o ≠ bX + 1) (J Jx : List Int -> World -> Prop)
  (hJ : ∀ s A u, J s A -> J s (A.setCell ⟨bX + 1, 0, none⟩ u))
  (hY : ∀ pre x W, J pre W -> pre.length < l.length -> YieldAt Fence.wide (n - 1) Tryz.prog lp #[.int .i64 x] W fun e W' =>
    (e = .returned (.bool true) /\ J (pre ++ [x]) W' /\ Spared (bX + 2) o W W') ∨ (e = .returned (.bool false) /\ Jx (pre ++ [x]) W'))
  (W : World) (hI : W.cell? ⟨bX + 1, 0, none⟩ = some (.int .i64 i)) (hF : W.frozen? ⟨bX + 1, 0, none⟩ = false) (hX : W.cell? ⟨bX, 33, none⟩ = some v) (hC : xh W bX o v l) (h0 : J [] W) :
  CallsIn Fence.wide n Tryz.prog 109 #[.func (.yield lp) #[] #[], .pointer (some ⟨bX + 1, 0, none⟩), .pointer (some ⟨bX, 0, none⟩)] W fun e W' => (∃ v, e = .returned v) /\
   ((∃ ys, ys = V.anc l i /\ J ys W') ∨ (∃ pre, pre <+: V.anc l i /\ Jx pre W')) := by
 have HJ := zpa hJ
 have HY := zpa hY
 have HO := zpa ho
 have HC := zpa hC
 obtain ⟨va, vc, rfl, hjunk⟩ := hC
 clear hJ hY ho hjunk
 refine callsIn_of_wp Tryz.func109 rfl trivial ?_ rfl
 simp only [Tryz.ntmps109, List.size_toArray, List.length_cons, List.length_nil, Nat.reduceAdd, Nat.reduceSub, Array.replicate_succ, Array.replicate_zero, List.push_toArray, List.append_toArray, List.nil_append, List.cons_append]
 gi_wp2
 gi_loopw [4] (fun _ wr => ∃ (pre : List Int) (r : Int), -1 ≤ r /\ r < l.length /\ wr.cell? ⟨bX + 1, 0, none⟩ = some (.int .i64 r) /\ wr.frozen? ⟨bX + 1, 0, none⟩ = false /\ wr.cell? ⟨bX, 33, none⟩ = some (.slice va l.length vc) /\ xh wr bX o (.slice va l.length vc) l /\ V.anc l i = pre ++ V.anc l r /\ J pre wr)
  (fun _ wr => intOfO (wr.cell? ⟨bX + 1, 0, none⟩))
 case atStart => exact ⟨[], i, hi, hil, hI, hF, hX, HC.out, rfl, h0⟩
 case round =>
  obtain ⟨pre, r, hr1, hr2, hI, hF, hX, hc, hpc, hj⟩ := hrel
  have HPC := zpa hpc
  have HJS := zpa hj
  have HCW := zpa hc
  clear hpc hj hc
  by_cases hneg : r < 0
  ·have hge : ¬ 0 ≤ r := by omega
   gi_wp2
   go_end0
   have HJE : J (V.anc l i) wr := by rw [HPC.out, V.zio hneg, List.append_nil]; exact HJS.out
   first
    | exact ⟨⟨_, rfl⟩, .inl ⟨_, rfl, HJE⟩⟩
    | exact ⟨⟨_, rfl⟩, .inl HJE⟩
    | exact .inl HJE
  ·obtain ⟨k, rfl⟩ := Int.eq_ofNat_of_zero_le (show 0 ≤ r by omega)
   have hk : k < l.length := by omega
   have HST := zpa (V.zcx HO.out hk)
   have hpar := V.ze3 HO.out hk
   have hplen : pre.length < l.length := by
    have h1 := congrArg List.length HPC.out
    rw [HST.out] at h1
    have h2 := V.zel HO.out i (by omega)
    simp at h1
    omega
   obtain ⟨fn, tmps, assign, body, hy, hR⟩ := HY.out pre (k : Int) wr HJS.out hplen
   clear hplen
   gi_wp2
   refine hR.mono ?_
   rintro e W3 (⟨rfl, hJ3, hk3⟩ | ⟨rfl, hJx3⟩)
   ·have hI3 := (hk3.cell (b := bX + 1) (by omega) (by omega) 0).trans hI
    have hF3 := (hk3.frozen (b := bX + 1) (by omega) (by omega) 0).trans hF
    have hX3 := (hk3.cell (b := bX) (by omega) (by omega) 33).trans hX
    have hC3 : xh W3 bX o (.slice va l.length vc) l := HCW.out.kept ⟨hk3.1, fun q hq hqo => hk3.2 q (by omega) hqo⟩
    have HC3 := zpa hC3
    obtain ⟨a', c', e', hat⟩ := hC3
    obtain ⟨hxw, b, off, ea, hbB, hbo, hxr⟩ := hat k hk
    cases e'
    subst ea
    have hx0 : W3.cell? ⟨b, off + k * 36, none⟩ = some (.int .i64 l[k].par) := hxr 0 _ rfl
    clear hat hxr
    have HPR := zpa hpar
    clear hpar
    generalize l[k].par = pr at *
    gi_wp2
    go_roundw
    case rel =>
     refine ⟨pre ++ [(k : Int)], pr, HPR.out.1, by have := HPR.out.2; omega, World.cell?_setCell_same _ _ _ hI3, ?_, ?_, HC3.out.setCell (by omega) _, by rw [HPC.out, HST.out]; simp, HJ.out _ _ _ hJ3⟩
     ·rw [World.frozen?_setCell]; exact hF3
     ·rw [World.cell?_setCell_other _ _ _ _ (by simp)]; exact hX3
    case measure =>
     rw [World.cell?_setCell_same _ _ _ hI3, hI]
     have := HPR.out
     simp [intOfO]; omega
   ·gi_wp2
    refine bodyPost_ret (results_none rfl _ _ _) rfl ?_
    exact ⟨⟨_, rfl⟩, .inr ⟨_, by rw [HPC.out, HST.out]; exact ⟨V.anc l l[k].par, by simp⟩, hJx3⟩⟩
theorem anc1_seq (n : Nat) (hn : 1 ≤ n) (bX o : Nat) (v : Value) (l : List V.Comp) (ho : V.zy l l.length = true) (hl : l.length ≤ 100000) (i : Int) (hi : -1 ≤ i) (hil : i < l.length) (hox : o < bX) (w : World) (hb : bX + 1 < w.heap.size)
  (hI : w.cell? ⟨bX + 1, 0, none⟩ = some (.int .i64 i)) (hF : w.frozen? ⟨bX + 1, 0, none⟩ = false) (hX : w.cell? ⟨bX, 33, none⟩ = some v) (hC : xh w bX o v l) :
  HandsP Fence.wide n Tryz.prog 109 #[.pointer (some ⟨bX + 1, 0, none⟩), .pointer (some ⟨bX, 0, none⟩)] (fun x : Int => #[.int .i64 x]) (Spared (bX + 2) o) (fun ys => ys = V.anc l i) (fun pre => pre <+: V.anc l i) (fun pre _ => pre.length < l.length) w (bX + 1) := by
 intro lp J Jx W hW hJ hY h0
 exact anc1_in n hn lp bX o v l ho hl i hi hil (by omega) (by omega) J Jx hJ hY W ((hW.cell (p := ⟨bX + 1, 0, none⟩) hb).trans hI) ((hW.frozen (p := ⟨bX + 1, 0, none⟩) hb).trans hF) ((hW.cell (p := ⟨bX, 33, none⟩) (show bX < w.heap.size by omega)).trans hX) (hC.kept ⟨hW.size, fun k hk _ => hW.block k (by omega)⟩) h0
end Go.Proofs.YtbikeahmldobkaaGreatDoor
