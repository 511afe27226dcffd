/-
  Lemmas for the law.
-/
import Derived.Test.YtbikeahmldobkaaGreatDoorC50x28
import Derived.Test.YtbikeahmldobkaaGreatDoorC50x32
import Derived.Test.YtbikeahmldobkaaGreatDoorC50x30
import Derived.Test.YtbikeahmldobkaaGreatDoorC50x03
import Derived.Test.YtbikeahmldobkaaGreatDoorC50x26
import Derived.Laws.OwnMore
set_option linter.all false
set_option maxRecDepth 100000
set_option maxHeartbeats 3200000
namespace Go.Proofs.YtbikeahmldobkaaGreatDoor
open Go.RowKit Go.Shelf
attribute [local go_sem] Oper.semAt_some
def ZRow (w : World) (N : Nat) (v : Value) (l : List Int) : Prop := w.ownsRow N 3 1 v l.length (l.map (Value.int .i64))
theorem ZRow.nil (w : World) (N : Nat) : ZRow w N (.slice none 0 0) [] := ⟨rfl, .inl ⟨rfl, rfl⟩⟩
theorem ZRow.slice {w : World} {N : Nat} {v : Value} {l : List Int} (h : ZRow w N v l) : ∃ a cap, v = .slice a l.length cap := by
 exact z0g
theorem ZRow.block {w : World} {N : Nat} {v : Value} {l : List Int} (h : ZRow w N v l) : ∀ b, v.ownBlock = some b -> N ≤ b := by
 exact z0b
theorem ZRow.cellsAt {w : World} {N : Nat} {v : Value} {l : List Int} (h : ZRow w N v l) : ∀ g, v.ownBlock = some g -> ∃ cur, w.heap[g]? = some (.cells cur 3 (0, 0)) := by
 intro b hb
 rcases h.2 with ⟨rfl, _⟩ | ⟨g, cap, cur, rfl, _, hg, _⟩
 ·cases hb
 ·simp [Value.ownBlock] at hb
  subst hb
  exact ⟨cur, hg⟩
theorem ZRow.kept {w w' : World} {N : Nat} {v : Value} {l : List Int} (h : ZRow w N v l) {row : Option Nat} (hg : w.grownBy w' row) (hr : ∀ b, row = some b -> v.ownBlock ≠ some b) : ZRow w' N v l := by
 obtain ⟨hx, h⟩ := h
 refine ⟨hx, ?_⟩
 rcases h with h | ⟨g, cap, cur, rfl, hb, hgg, rest⟩
 ·exact .inl h
 ·refine .inr ⟨g, cap, cur, rfl, hb, ?_, rest⟩
  rw [hg.block g (Array.getElem?_eq_some_iff.1 hgg).1 (fun e => hr g e.symm rfl)]
  exact hgg
theorem ZRow.keeps {w w' : World} {N : Nat} {v : Value} {l : List Int} (h : ZRow w N v l) (hg : w.grownBy w' v.ownBlock) : KeepsOthers w w' :=
 ⟨hg.size, fun k o hk ho => (hg.block k (Array.getElem?_eq_some_iff.1 hk).1 (fun e => by
   obtain ⟨cur, hc⟩ := h.cellsAt k e.symm
   rw [hc] at hk
   cases hk
   cases ho)).trans hk⟩
def Zs (w : World) (v : Value) (l : List Int) : Prop :=
 ∃ a cap, v = .slice a l.length cap /\ ∀ j (h : j < l.length), ∃ b off, a = some ⟨b, off, none⟩ /\ b < w.heap.size /\ w.cell? ⟨b, off + j, none⟩ = some (.int .i64 l[j])
theorem Zs.nil (w : World) : Zs w (.slice none 0 0) [] := ⟨none, 0, rfl, fun j h => by simp at h⟩
theorem zd4 (g : Nat) : ∀ (vs : List Value) (o : Nat) (w : World), (w.setCells g o vs).heap.size = w.heap.size
 | [], _, _ => rfl
 | v :: r, o, w => by
  show ((w.setCell ⟨g, o, none⟩ v).setCells g (o + 1) r).heap.size = w.heap.size
  rw [zd4 g r]; simp
theorem zdq {B g : Nat} {a : World} (hg : B ≤ g) : ∀ (vs : List Value) (o : Nat) (w : World), Below B a w -> Below B a (w.setCells g o vs)
 | [], _, _, h => h
 | v :: r, o, _, h => zdq hg r (o + 1) _ (h.setCell (p := ⟨g, o, none⟩) hg v)
theorem zss {F : Fence} {n : Nat} {ops : Array Oper} {rest : List Oper} {o : Oper} {a : Act} {w : World} {Q : Exit -> Act -> World -> Prop} (g1 : o.guard = none) (s x : Operand)
  (ho : o.op = .call { callee := .builtin .append, args := #[s, x], argTypes := #[22, 22] })
  (N : Nat) (v : Value) (l : List Int) (hs : a.eval s = v) (g0 : ZRow w N v l) (b : Nat) (i : Int) (hx : a.eval x = .slice (some ⟨b, 0, none⟩) 1 1) (hr : w.cell? ⟨b, 0, none⟩ = some (.int .i64 i)) (hl : l.length ≤ 1000000) (hN : N ≤ w.heap.size)
  (h : ∀ v' w', ZRow w' N v' (l ++ [i]) -> w.grownBy w' v.ownBlock -> wpListIn F n Tryz.prog ops Q rest (a.put o.dst v') w') : wpListIn F n Tryz.prog ops Q (o :: rest) a w := by
 obtain ⟨i0, hi, g2, g3, g4⟩ := info_parts zro
 refine wpListIn_append_own w g1 s x 22 ho N 3 i0 (.int .i64 0) 1 8 Tryz.underlying22 hi g2 g3 g4 rfl (by decide) v l.length _ hs g0 ⟨b, 0, none⟩ 1 1 [.int .i64 i] hx rfl ?_ ?_ (by unfold maxLen; omega) (by omega) hN ?_
 ·intro j u hj
  have : j = 0 := by
   have := (List.getElem?_eq_some_iff.1 hj).1
   simpa using this
  subst this
  rw [Addr.add_mid]
  simpa [hr] using hj
 ·intro u hu
  rw [List.mem_singleton.1 hu]; rfl
 ·intro v' w' g5 hg _
  refine h v' w' ?_ hg
  unfold ZRow
  rw [List.length_append, List.map_append]
  exact g5
theorem zpf {F : Fence} {n : Nat} {ops : Array Oper} {rest : List Oper} {o : Oper} {a : Act} {w : World} {Q : Exit -> Act -> World -> Prop} (g1 : o.guard = none) (x : Operand) (ho : o.op = .load 29 x)
  (g : Nat) (t : TypeId) (hx : a.eval x = .pointer (some ⟨g, 0, none⟩)) (cs : Array Value) (hcs : cs.size = 34) (g2 : w.heap[g]? = some (.cells cs t (0, 0)))
  (h : wpListIn F n Tryz.prog ops Q rest (a.put o.dst (.agg cs)) w) : wpListIn F n Tryz.prog ops Q (o :: rest) a w := by
 refine wpListIn_plain g1 fun K hK => ?_
 have g0 : (execOp a.eval o).run Tryz.prog w = .ok (.value (.agg cs)) w := by
  unfold execOp
  simp only [ho, hx, Instr.loadAt, Instr.sureAddr, Sem.run_bind, Sem.run_pure, Result.andThen_ok, run_loadVar_row w g t 29 cs (0, 0) _ g2 Tryz.underlying29 rfl (by rw [yw, hcs])]
 unfold Oper.wpIn
 refine ⟨by simp [Oper.about, ho], ?_⟩
 rw [Oper.semAt_plain F _ _ (by rw [ho]; intro c g3; cases g3), g0]
 exact hK _ _ h
open Go.RowKit Go.Shelf
attribute [local go_sem] Oper.semAt_some
theorem anc1_in (n : Nat) (hn : 1 ≤ n) (lp bX o : Nat) (v : Value) (l : List V.Comp) (ho : V.qg l l.length = true) (hl : l.length ≤ 100000) (i : Int) (hi : -1 ≤ i) (h6 : i < l.length) (j4 : o ≠ bX) (j3 : o ≠ bX + 1) (J Jx : List Int -> World -> Prop)
  (hJ : ∀ s A u, J s A -> J s (A.setCell ⟨bX + 1, 0, none⟩ u))
  (hY : ∀ pre x W, J pre W -> pre.length < l.length -> YieldAt Fence.wide (n - 1) Tryz.prog lp #[.int .i64 x] W fun e W' =>
    (e = .returned (.bool true) /\ J (pre ++ [x]) W' /\ Spared (bX + 2) o W W') ∨ (e = .returned (.bool false) /\ Jx (pre ++ [x]) W'))
  (W : World) (hI : W.cell? ⟨bX + 1, 0, none⟩ = some (.int .i64 i)) (hF : W.frozen? ⟨bX + 1, 0, none⟩ = false) (hX : W.cell? ⟨bX, 33, none⟩ = some v) (hC : uz W bX o v l) (h0 : J [] W) :
  CallsIn Fence.wide n Tryz.prog 109 #[.func (.yield lp) #[] #[], .pointer (some ⟨bX + 1, 0, none⟩), .pointer (some ⟨bX, 0, none⟩)] W fun e W' => (∃ v, e = .returned v) /\
   ((∃ ys, ys = V.anc l i /\ J ys W') ∨ (∃ pre, pre <+: V.anc l i /\ Jx pre W')) := by
 have HJ := zwg hJ
 have HY := zwg hY
 have HO := zwg ho
 have HC := zwg hC
 obtain ⟨va, vc, rfl, g5⟩ := hC
 clear hJ hY ho g5
 refine callsIn_of_wp Tryz.func109 rfl trivial ?_ rfl
 simp only [Tryz.ntmps109, List.size_toArray, List.length_cons, List.length_nil, Nat.reduceAdd, Nat.reduceSub, Array.replicate_succ, Array.replicate_zero, List.push_toArray, List.append_toArray, List.nil_append, List.cons_append]
 gi_wp2
 gi_loopw [4] (fun _ wr => ∃ (pre : List Int) (r : Int), -1 ≤ r /\ r < l.length /\ wr.cell? ⟨bX + 1, 0, none⟩ = some (.int .i64 r) /\ wr.frozen? ⟨bX + 1, 0, none⟩ = false /\ wr.cell? ⟨bX, 33, none⟩ = some (.slice va l.length vc) /\ uz wr bX o (.slice va l.length vc) l /\ V.anc l i = pre ++ V.anc l r /\ J pre wr)
  (fun _ wr => intOfO (wr.cell? ⟨bX + 1, 0, none⟩))
 case atStart => exact ⟨[], i, hi, h6, hI, hF, hX, HC.out, rfl, h0⟩
 case round =>
  obtain ⟨pre, r, j5, j6, hI, hF, hX, hc, g6, hj⟩ := hrel
  have HPC := zwg g6
  have g7 := zwg hj
  have h7 := zwg hc
  clear g6 hj hc
  by_cases hneg : r < 0
  ·have hge : ¬ 0 ≤ r := by omega
   gi_wp2
   go_end0
   have g2 : J (V.anc l i) wr := by rw [HPC.out, V.zto hneg, List.append_nil]; exact g7.out
   first
    | exact ⟨⟨_, rfl⟩, .inl ⟨_, rfl, g2⟩⟩
    | exact ⟨⟨_, rfl⟩, .inl g2⟩
    | exact .inl g2
  ·obtain ⟨k, rfl⟩ := Int.eq_ofNat_of_zero_le (show 0 ≤ r by omega)
   have hk : k < l.length := by omega
   have HST := zwg (V.zk0 HO.out hk)
   have g3 := V.znn HO.out hk
   have g1 : pre.length < l.length := by
    have h1 := congrArg List.length HPC.out
    rw [HST.out] at h1
    have h2 := V.zoo HO.out i (by omega)
    simp at h1
    omega
   obtain ⟨fn, tmps, assign, body, hy, hR⟩ := HY.out pre (k : Int) wr g7.out g1
   clear g1
   gi_wp2
   refine hR.mono ?_
   rintro e W3 (⟨rfl, h8, g0⟩ | ⟨rfl, h5⟩)
   ·have g8 := (g0.cell (b := bX + 1) (by omega) (by omega) 0).trans hI
    have h9 := (g0.frozen (b := bX + 1) (by omega) (by omega) 0).trans hF
    have j0 := (g0.cell (b := bX) (by omega) (by omega) 33).trans hX
    have g9 : uz W3 bX o (.slice va l.length vc) l := h7.out.kept ⟨g0.1, fun q hq j1 => g0.2 q (by omega) j1⟩
    have j2 := zwg g9
    obtain ⟨a', c', e', h3⟩ := g9
    obtain ⟨j7, b, off, ea, j8, hbo, h4⟩ := h3 k hk
    cases e'
    subst ea
    have j9 : W3.cell? ⟨b, off + k * 36, none⟩ = some (.int .i64 l[k].par) := h4 0 _ rfl
    clear h3 h4
    have g4 := zwg g3
    clear g3
    generalize l[k].par = pr at *
    gi_wp2
    go_roundw
    case rel =>
     refine ⟨pre ++ [(k : Int)], pr, g4.out.1, by have := g4.out.2; omega, World.cell?_setCell_same _ _ _ g8, ?_, ?_, j2.out.setCell (by omega) _, by rw [HPC.out, HST.out]; simp, HJ.out _ _ _ h8⟩
     ·rw [World.frozen?_setCell]; exact h9
     ·rw [World.cell?_setCell_other _ _ _ _ (by simp)]; exact j0
    case measure =>
     rw [World.cell?_setCell_same _ _ _ g8, hI]
     have := g4.out
     simp [intOfO]; omega
   ·gi_wp2
    refine bodyPost_ret (results_none rfl _ _ _) rfl ?_
    exact ⟨⟨_, rfl⟩, .inr ⟨_, by rw [HPC.out, HST.out]; exact ⟨V.anc l l[k].par, by simp⟩, h5⟩⟩
theorem anc1_seq (n : Nat) (hn : 1 ≤ n) (bX o : Nat) (v : Value) (l : List V.Comp) (ho : V.qg l l.length = true) (hl : l.length ≤ 100000) (i : Int) (hi : -1 ≤ i) (g0 : i < l.length) (g1 : o < bX) (w : World) (hb : bX + 1 < w.heap.size)
  (hI : w.cell? ⟨bX + 1, 0, none⟩ = some (.int .i64 i)) (hF : w.frozen? ⟨bX + 1, 0, none⟩ = false) (hX : w.cell? ⟨bX, 33, none⟩ = some v) (hC : uz w bX o v l) :
  HandsP Fence.wide n Tryz.prog 109 #[.pointer (some ⟨bX + 1, 0, none⟩), .pointer (some ⟨bX, 0, none⟩)] (fun x : Int => #[.int .i64 x]) (Spared (bX + 2) o) (fun ys => ys = V.anc l i) (fun pre => pre <+: V.anc l i) (fun pre _ => pre.length < l.length) w (bX + 1) := by
 intro lp J Jx W hW hJ hY h0
 exact anc1_in n hn lp bX o v l ho hl i hi g0 (by omega) (by omega) J Jx hJ hY W ((hW.cell (p := ⟨bX + 1, 0, none⟩) hb).trans hI) ((hW.frozen (p := ⟨bX + 1, 0, none⟩) hb).trans hF) ((hW.cell (p := ⟨bX, 33, none⟩) (show bX < w.heap.size by omega)).trans hX) (hC.kept ⟨hW.size, fun k hk _ => hW.block k (by omega)⟩) h0
open Go.RowKit Go.Shelf
attribute [local go_sem] Oper.semAt_some
theorem zlf (ic : Array Value) (i : Int) (w : World) :
  Calls Tryz.prog 76 #[.agg ic, .int .i64 i] w fun e w' =>
   e = .returned (.func (.func 109) #[] #[.pointer (some ⟨w.heap.size + 1, 0, none⟩), .pointer (some ⟨w.heap.size, 0, none⟩)]) /\
   w' = (w.alloc (.cells ic 29)).alloc (.cells #[.int .i64 i] 3) := by
 go_enter Tryz.func76, Tryz.ntmps76
 go_wp2
 go_ret
 exact ⟨rfl, rfl⟩
def zp1 (l : List V.Comp) (ok : Bool) (i : Int) (w : World) (e : Ending) (w' : World) : Prop :=
 ∃ v, e = .returned v /\ Zs w' v (if ok = true /\ 0 ≤ i /\ i < l.length then (V.anc l i).reverse else []) /\ Below w.heap.size w w'
theorem zzb {P : Prop} (h : P := by
 gi_wp2
 refine ⟨.slice none 0 0, by simp [results, Tryz.f43, go_sem], _, rfl, ?_, HB1.out⟩
 rw [if_neg (by omega)]
 exact Zs.nil _) : P := h
theorem z0h {P : Prop} (h : P := by
 rw [hW0, hO]; simp only [zh, World.size_alloc]; repeat (first | rw [if_pos (by omega)] | rw [if_neg (by omega)])
 rfl) : P := h
theorem z0i {P : Prop} (h : P := by
 rw [hW0, hO]; simp only [qt, World.size_alloc]; repeat (first | rw [if_pos (by omega)] | rw [if_neg (by omega)])
 rfl) : P := h
theorem path_in (d : List Int) (time : Int) (v : Value) (l : List V.Comp) (i : Int) (w : World) (hm : zj w) (hd : d.length = 32) (h0 : ∀ n ∈ d, (Lit.int .u8 n).wf = true) (hv : Comps w v l) (hl : l.length ≤ 100000) :
  CallsIn Fence.wide 6 Tryz.prog 43 #[.agg (icells d time v), .int .i64 i] w (zp1 l (V.jo d time l) i w) := by
 have HM := zwg hm
 have HL := zwg hv
 have HD := zwg hd
 have k3 := zwg h0
 have h6 := zex hd time v
 have h7 := zwg (ql hd time v)
 obtain ⟨va, vc, rfl, g9⟩ := hv
 clear hd h0 g9 hm
 refine callsIn_of_wp_marks Tryz.func43 rfl trivial ?_ rfl
 simp only [Tryz.ntmps43, List.size_toArray, List.length_cons, List.length_nil, Nat.reduceAdd, Nat.reduceSub, Array.replicate_succ, Array.replicate_zero, List.push_toArray, List.append_toArray, List.nil_append, List.cons_append]
 gi_wp2_with (first | (refine zpf rfl _ rfl w.heap.size _ rfl (icells d time (.slice va l.length vc)) h7.out (heap_alloc_new w _) ?_) | fail)
 refine ⟨trivial, (callsIn_wide.2 (zic d time (.slice va l.length vc) l _ (HM.out.below ((zwj _ w).alloc (zwi _) _)) HD.out k3.out (HL.out.below ((zwj _ w).alloc (zwi _) _)) (by unfold maxLen; omega))).mono ?_⟩
 rintro e w1 ⟨rfl, hb1⟩
 have g6 := (zwj w.heap.size w).alloc (zwi _) (.cells (icells d time (.slice va l.length vc)) 29)
 have HB1 := zwg (g6.trans (hb1.mono g6.size))
 have hg1 : w1.heap[w.heap.size]? = some (.cells (icells d time (.slice va l.length vc)) 29 (0, 0)) := (hb1.block _ (by simp)).trans (heap_alloc_new w _)
 have h8 : w.heap.size < w1.heap.size := Nat.lt_of_lt_of_le (by simp) hb1.size
 have k4 : Hid (V.jo d time l = true -> V.qg l l.length = true) := zwg (fun h => by unfold V.jo at h; exact (Bool.and_eq_true_iff.1 h).2)
 clear g6 hb1
 generalize V.jo d time l = ok at *
 rcases ok with _ | _
 ·gi_wp2
  refine ⟨.slice none 0 0, by simp [results, Tryz.f43, go_sem], _, rfl, ?_, HB1.out⟩
  rw [if_neg (by simp)]
  exact Zs.nil _
 ·have HO := zwg (k4.out rfl)
  have k0 : w1.cell? ⟨w.heap.size, 33, none⟩ = some (.slice va l.length vc) := by rw [cell_of_row w1 w.heap.size 33 _ _ _ hg1]; exact h6
  by_cases hi0 : i < 0
  ·exact zzb
  ·by_cases hil : (l.length : Int) ≤ i
   ·exact zzb
   ·have k5 : Hid ((w1.alloc (.cells #[.slice none 0 0] 22)).heap[w.heap.size]? = some (.cells (icells d time (.slice va l.length vc)) 29 (0, 0))) := zwg ((Below.heap_alloc _ _ _ h8).trans hg1)
    gi_wp2_with (first | (refine zpf rfl _ rfl w.heap.size _ rfl (icells d time (.slice va l.length vc)) h7.out k5.out ?_) | fail)
    refine ⟨trivial, (callsIn_wide.2 (zlf _ i _)).mono ?_⟩
    rintro e w' ⟨rfl, rfl⟩
    gi_wp2
    obtain ⟨O, hO⟩ : ∃ O, O = w1.heap.size := ⟨_, rfl⟩
    obtain ⟨W0, hW0⟩ : ∃ W0, W0 = ((w1.alloc (.cells #[.slice none 0 0] 22)).alloc (.cells (icells d time (.slice va l.length vc)) 29)).alloc (.cells #[.int .i64 i] 3) := ⟨_, rfl⟩
    rw [← hW0, ← hO]
    have v1 : W0.heap.size = O + 3 := by rw [hW0, hO]; simp
    have h9 : Below w1.heap.size w1 W0 := by
     rw [hW0]
     exact (((zwj _ w1).alloc (zwi _) _).alloc (by simp) _).alloc (by simp; omega) _
    have j0 : Below w.heap.size w W0 := HB1.out.trans (h9.mono HB1.out.size)
    have c0 : W0.cell? ⟨O, 0, none⟩ = some (.slice none 0 0) := by
     exact z0h
    have f0 : W0.frozen? ⟨O, 0, none⟩ = false := by
     exact z0i
    have c1 : W0.cell? ⟨O + 1, 33, none⟩ = some (.slice va l.length vc) := by
     rw [hW0, hO]; simp only [zh, World.size_alloc]; repeat (first | rw [if_pos (by omega)] | rw [if_neg (by omega)])
     exact h6
    have c2 : W0.cell? ⟨O + 1 + 1, 0, none⟩ = some (.int .i64 i) := by
     exact z0h
    have f2 : W0.frozen? ⟨O + 1 + 1, 0, none⟩ = false := by
     exact z0i
    have v2 : w.heap.size < O := by omega
    have k6 : uz W0 (O + 1) O (.slice va l.length vc) l := by
     obtain ⟨a', c', e', k7⟩ := HL.out
     refine ⟨a', c', e', fun j hj => ?_⟩
     obtain ⟨hw, b, off, ea, hlt, hr⟩ := k7 j hj
     exact ⟨hw, b, off, ea, by omega, by omega, zk hr j0⟩
    clear hW0 hO h9 hg1 h8 k0
    refine zf5 (b := O + 1 + 1) rfl (by omega) (gf := 109)
     (lb := #[.pointer (some ⟨O + 1 + 1, 0, none⟩), .pointer (some ⟨O + 1, 0, none⟩)])
     rfl trivial (enters_of Tryz.func109 (by kernel_rfl) rfl) (by omega)
     (anc1_seq 5 (by omega) (O + 1) O (.slice va l.length vc) l HO.out hl i (by omega) (by omega) (by omega) W0 (by omega) c2 f2 c1 k6)
     (fun h k => ⟨Nat.le_trans h.1 k.1, fun q hq g4 => (k.2 q hq g4).trans (h.2 q hq g4)⟩)
     (fun W q o o' hq ho _ _ => ⟨by have := grownBy_putObj' W q o'; exact this.size, fun k hk _ => (grownBy_putObj' W q o').block k (by have := (Array.getElem?_eq_some_iff.1 ho).1; omega) (by simp; omega)⟩)
     (fun _ => rfl)
     (I := fun pre W => (∃ ov, W.cell? ⟨O, 0, none⟩ = some ov /\ W.frozen? ⟨O, 0, none⟩ = false /\ O + 3 ≤ W.heap.size /\ ZRow W (O + 3) ov pre) /\ Below w.heap.size w W)
     (Ix := fun _ _ _ => False)
     (act := fun x => { tmps := #[.agg (icells d time (.slice va l.length vc)), .int .i64 i, .pointer (some ⟨w.heap.size, 0, none⟩), undef, .slice none 0 0, .pointer (some ⟨O, 0, none⟩), .int .i64 x,
       .agg (icells d time (.slice va l.length vc)), .bool true, .bool false, .bool false, .int .i64 i, .bool (decide (i < 0)), .bool (decide (i < 0)), .bool (decide (i < 0)), .int .i64 i, .pointer (some ⟨w.heap.size, 33, none⟩), .slice va l.length vc,
       .int .i64 l.length, .bool (decide ((l.length : Int) ≤ i)), .bool (decide (i < 0) || decide ((l.length : Int) ≤ i)), .agg (icells d time (.slice va l.length vc)), .int .i64 i,
       .func (.func 109) #[] #[.pointer (some ⟨O + 1 + 1, 0, none⟩), .pointer (some ⟨O + 1, 0, none⟩)], .int .i64 x, undef, undef, undef, undef, undef, undef, undef], defers := [] })
     ⟨?own, ?ownx, ?state, ?assign, ?body⟩ ⟨⟨_, c0, f0, by omega, ZRow.nil _ _⟩, j0⟩ ?done ?stop
    case own =>
     refine OwnFrom.and (Own.from (fun s A B row hs hg hr => ?_) _) (ownFrom_below (zwi _) (by omega))
     obtain ⟨ov, h1, h2, h4, h3⟩ := hs
     refine ⟨ov, cell_kept h1 hg hr, (frozen_kept h1 hg hr).trans h2, Nat.le_trans h4 hg.size, h3.kept hg (fun b hb e => ?_)⟩
     obtain ⟨o, j1, k8⟩ := hr b hb
     obtain ⟨cur, k1⟩ := h3.cellsAt b e
     rw [k1] at j1
     cases j1
     cases k8
    case ownx => exact fun c s A B row hs _ _ => hs
    case state =>
     rintro s A u ⟨⟨ov, h1, h2, h4, h3⟩, hB⟩
     refine ⟨⟨ov, by rw [World.cell?_setCell_other _ _ _ _ (by simp)]; exact h1, by rw [World.frozen?_setCell]; exact h2, Nat.le_trans h4 (jt A (O + 1 + 1) 0 u).size, h3.kept (jt A (O + 1 + 1) 0 u) (fun b hb e => by cases hb; have := h3.block _ e; omega)⟩, hB.setCell (p := ⟨O + 1 + 1, 0, none⟩) (by show w.heap.size ≤ O + 1 + 1; omega) _⟩
    case assign =>
     intro l x W K hK
     gi_wp2
     exact hK
    case body =>
     rintro lp pre x W ⟨⟨ov, h1, h2, h4, h3⟩, hB⟩ k2
     have g3 := h3.block
     obtain ⟨za, zc, k9⟩ := h3.slice
     subst k9
     have HB := zwg hB
     have j2 : Hid (ZRow (W.alloc (.cells #[.int .i64 x] 3)) (O + 3) (.slice za pre.length zc) pre) := zwg (h3.kept (row := none) (World.grownBy_alloc W _ none) (by intro b' e; cases e))
     have q0 : Hid ((W.alloc (.cells #[.int .i64 x] 3)).cell? ⟨W.heap.size, 0, none⟩ = some (.int .i64 x)) := zwg (by rw [zh, if_pos (by simp)]; rfl)
     have j3 : (W.alloc (.cells #[.int .i64 x] 3)).heap[O]? = W.heap[O]? := Below.heap_alloc _ _ _ (by omega)
     have q1 := zwg j3
     clear h3 hB j3
     gi_wp2_with (first | (refine zss rfl _ _ rfl (O + 3) (.slice za pre.length zc) pre rfl j2.out W.heap.size x rfl q0.out (by omega) (by simp; omega) ?_
                           intro v' w3 g5 hg3
                           have hO3 : w3.heap[O]? = W.heap[O]? := (hg3.block O (by simp; omega) (fun e => by have := g3 O e.symm; omega)).trans q1.out
                           have c3 : w3.cell? ⟨O, 0, none⟩ = some (.slice za pre.length zc) := by rw [← h1]; unfold World.cell?; rw [hO3]
                           have f3 : w3.frozen? ⟨O, 0, none⟩ = false := by rw [← h2]; unfold World.frozen?; rw [hO3]
                           obtain ⟨va', vc', q2⟩ := g5.slice
                           subst q2
                           have q3 : (pre ++ [x]).length = pre.length + 1 := by simp
                           rw [q3] at g5
                           have j4 := zwg g5
                           have g0 := zwg hg3
                           clear g5 hg3 hO3) | fail)
     have j5 : KeepsOthers W w3 := (KeepsOthers.alloc W _).trans (j2.out.keeps g0.out)
     have v3 : W.heap.size ≤ w3.heap.size := j5.size
     have hb3 : Below w.heap.size w w3 := by
      have g2 : Below w.heap.size w (W.alloc (.cells #[.int .i64 x] 3)) := HB.out.alloc HB.out.size _
      exact ⟨g0.out.os.trans g2.os, g0.out.tape.trans g2.tape, g0.out.output.trans g2.output, Nat.le_trans g2.size g0.out.size, fun q hq => (g0.out.block q (Nat.lt_of_lt_of_le hq g2.size) (fun e => by have := g3 q e.symm; omega)).trans (g2.block q hq)⟩
     have v4 : (w3.setCell ⟨O, 0, none⟩ (.slice va' (pre.length + 1) vc')).heap.size = w3.heap.size := by simp [World.setCell]
     refine ⟨j5.trans (KeepsOthers.setCell _ _ _), ⟨by omega, fun q hq g4 => ?_⟩, ⟨_, World.cell?_setCell_same _ _ _ c3, by rw [World.frozen?_setCell]; exact f3, by omega, ?_⟩, hb3.setCell (p := ⟨O, 0, none⟩) (by show w.heap.size ≤ O; omega) _⟩
     ·rw [Below.heap_setCell _ _ _ _ (by show q ≠ O; exact g4)]
      exact (g0.out.block q (by simp; omega) (fun e => by have := g3 q e.symm; omega)).trans (Below.heap_alloc _ _ _ (by omega))
     ·exact j4.out.kept (jt w3 O 0 _) (fun b hb e => by cases hb; have := j4.out.block _ e; omega)
    case done =>
     rintro D ys W hD rfl ⟨⟨ov, h1, h2, h4, h3⟩, hB⟩ hK
     have k2 := V.zoo HO.out i (by omega)
     have v5 : 0 < (V.anc l i).length := by
      obtain ⟨k, rfl⟩ := Int.eq_ofNat_of_zero_le (show 0 ≤ i by omega)
      rw [V.zk0 HO.out (show k < l.length by omega)]; simp
     generalize q4 : V.anc l i = ys at *
     obtain ⟨q5, ⟨rfl, hn⟩ | ⟨g, cap, cur, rfl, v6, hgg, v7, q9, hcs, j6⟩⟩ := h3
     ·omega
     ·have j7 := zwg hgg
      have v8 : g < W.heap.size := (Array.getElem?_eq_some_iff.1 hgg).1
      have hcell : ∀ j, j < ys.length -> W.cell? ⟨g, 0 + j, none⟩ = some (.int .i64 (ys.getD j 0)) := by
       intro j hj
       rw [cell_of_row W g (0 + j) _ _ _ hgg, Nat.zero_add]
       have h5 : cur.toList[j]? = (cur.toList.take (ys.length * 1))[j]? := by rw [List.getElem?_take, if_pos (by omega)]
       rw [← Array.getElem?_toList, h5, j6, List.getElem?_map, List.getElem?_eq_getElem hj]
       simp [List.getD, List.getElem?_eq_getElem hj]
      have j8 : ∀ j, j < ys.length -> W.frozen? ⟨g, 0 + j, none⟩ = false := by
       intro j hj
       unfold World.frozen?
       simp [hgg]
      have g7 := zwg hcell
      have j9 := zwg j8
      have HB := zwg hB
      have HK := zwg hK
      clear q5 j6 hcell j8 hB hcs hgg
      gi_wp2_with fail
      refine ⟨trivial, (callsIn_wide.2 (Tryz.slices_Reverse_int_cells g 0 ys.length cap ys _ (zwi _) (by omega) g7.out j9.out)).mono ?_⟩
      rintro e w' ⟨rfl, q, g1⟩
      rw [List.take_length] at g1
      have v9 : w'.cell? ⟨O, 0, none⟩ = some (.slice (some ⟨g, 0, none⟩) ys.length cap) := by
       rw [g1, World.cell?_setCells_out _ _ _ _ _ (fun e _ => by have : O = g := e; omega)]; exact h1
      have y0 : w'.heap.size = W.heap.size := by rw [g1, zd4]; rfl
      have g8 : w'.heap[D]? = some (.deferred (some [])) := by
       have q6 : D < W.heap.size := (Array.getElem?_eq_some_iff.1 HK.out).1
       rw [g1, World.heap_setCells_other _ _ _ _ (by exact q6) (fun e => by subst e; have := j7.out.symm.trans HK.out; cases this)]
       exact HK.out
      have HBW : Hid (Below w.heap.size w w') := zwg (by
        rw [g1]
        exact zdq (by omega) _ _ _ ⟨HB.out.os, HB.out.tape, HB.out.output, HB.out.size, HB.out.block⟩)
      have q7 : Hid (∀ j (h : j < ys.reverse.length), w'.cell? ⟨g, 0 + j, none⟩ = some (.int .i64 ys.reverse[j])) := zwg (by
        intro j hj
        have q8 : j < (ys.reverse.map (Value.int .i64)).length := by simpa using hj
        rw [g1, World.cell?_setCells_in g _ 0 _ (fun k hk => ?_) j q8]
        · simp
        · rw [World.cell?_drewN, g7.out k (by simpa using hk)]; rfl)
      clear g1 h1 h2 h4 HK HB g7 j9 j7
      gi_wp2
      refine ⟨by simp, .inl ⟨_, _, rfl, run_takeDeferred g8, ?_⟩⟩
      refine ⟨.slice (some ⟨g, 0, none⟩) ys.length cap, by simp [results, Tryz.f43, go_sem], ?_⟩
      refine ⟨_, rfl, ?_, HBW.out.trans (belowK_b (w := w) (zwi _) _ D _ _ (by omega) g8 rfl rfl)⟩
      rw [if_pos ⟨rfl, by omega, by omega⟩, q4]
      refine ⟨some ⟨g, 0, none⟩, cap, by rw [List.length_reverse], fun j hj => ⟨g, 0, rfl, ?_, ?_⟩⟩
      ·have := (grownBy_putObj' w' D (.deferred none)).size
       omega
      ·exact cell_kept (q7.out j hj) (grownBy_putObj' _ D (.deferred none)) (fun r e => by cases e; exact ⟨_, g8, rfl⟩)
    case stop =>
     rintro D c pre W hD v0 hx hK
     exact hx.elim
theorem zu2 (d : List Int) (time : Int) (v : Value) (l : List V.Comp) (i : Int) (w : World) (hm : zj w) (hd : d.length = 32) (g0 : ∀ n ∈ d, (Lit.int .u8 n).wf = true) (hv : Comps w v l) (hl : l.length ≤ 100000) :
  Calls Tryz.prog 43 #[.agg (icells d time v), .int .i64 i] w (zp1 l (V.jo d time l) i w) :=
 callsIn_wide.1 (path_in d time v l i w hm hd g0 hv hl)
open Go.RowKit
namespace V
end V
open Go.RowKit
namespace MInv
variable {w : World} {N O S n : Nat} {d : List Int} {mx : Int} {v : Value} {out : List V.Comp} {st : List Int} {W W' : World}
end MInv
open Go.RowKit
namespace RInv
variable {w : World} {O : Nat} {d : List Int} {mx : Int} {v : Value} {out : List V.Comp} {pv : Value} {st : List Int} {W W' : World}
end RInv
open Go.RowKit
theorem Zs.below {w w' : World} {v : Value} {l : List Int} (h : Zs w v l) (hb : Below w.heap.size w w') : Zs w' v l := by
 obtain ⟨a, cap, e, g0⟩ := h
 refine ⟨a, cap, e, fun j hj => ?_⟩
 obtain ⟨b, off, ea, hlt, hc⟩ := g0 j hj
 exact ⟨b, off, ea, Nat.lt_of_lt_of_le hlt hb.size, (hb.cell (p := ⟨b, off + j, none⟩) hlt).trans hc⟩
theorem Zs.atU {w : World} {a : Option Addr} {n cap : Nat} {l : List Int} (h : Zs w (.slice a n cap) l) (j : Nat) (hj : j < l.length) : ∃ b off, a = some ⟨b, off, none⟩ /\ b < w.heap.size /\ w.cell? ⟨b, off + j, none⟩ = some (.int .i64 l[j]) := by
 obtain ⟨a', c, e, hc⟩ := h
 cases e
 exact hc j hj
theorem zidx_any (v : Value) (l : List Int) (c : Int) (w : World) (hv : Zs w v l) (hl : l.length ≤ 1000000) :
  Calls Tryz.prog 75 #[v, .int .i64 c] w fun e w' => ∃ i : Int, e = .returned (.int .i64 i) /\ (0 ≤ i ↔ c ∈ l) /\ Below w.heap.size w w' := by
 have HV := zwg hv
 obtain ⟨va, vc, rfl, g2⟩ := hv
 clear g2
 go_enter Tryz.func75, Tryz.ntmps75
 go_wp2
 go_loopw [8] (fun jv wx => ∃ j : Nat, j ≤ l.length /\ jv = .int .i64 j /\ c ∉ l.take j /\ Below w.heap.size w wx) (fun jv _ => l.length - (intOf jv).toNat)
 case atStart => exact ⟨0, Nat.zero_le _, rfl, by simp, zwj _ _⟩
 case round =>
  obtain ⟨j, hj, rfl, g3, g0⟩ := hrel
  have HBX := zwg g0
  have g4 := zwg g3
  clear g3
  by_cases hlt : j < l.length
  ·obtain ⟨g, off, rfl, g6, g5⟩ := HV.out.atU j hlt
   have hc := (g0.cell (p := ⟨g, off + j, none⟩) g6).trans g5
   have HTS : Hid (c ∉ l.take j -> ¬ c = l[j] -> c ∉ l.take (j + 1)) := zwg (fun h1 h2 => by
     rw [List.take_succ_eq_append_getElem hlt, List.mem_append, List.mem_singleton]
     exact fun h => h.elim h1 h2)
   have HIN : Hid (c = l[j] -> c ∈ l) := zwg (fun h => by rw [h]; exact List.getElem_mem hlt)
   have i1 : (0 : Int) ≤ (j : Int) := by omega
   have i2 : (j : Int) < (l.length : Int) := by omega
   clear g0 g5
   generalize l[j] = d at *
   by_cases hcd : c = d
   ·have g1 := zwg hcd
    have hb : (c == d) = true := by rw [beq_iff_eq]; exact hcd
    clear hcd
    go_wp2
    go_ret
    exact ⟨j, rfl, ⟨fun _ => HIN.out g1.out, fun _ => by omega⟩, HBX.out⟩
   ·have g1 := zwg hcd
    have hb : (c == d) = false := by rw [zwk]; exact hcd
    go_wp2
    go_roundw
    case rel => exact ⟨j + 1, by omega, by go_num, HTS.out g4.out g1.out, HBX.out⟩
    case measure => simp [intOf]; omega
  ·obtain rfl : j = l.length := by omega
   have HN : Hid (c ∉ l) := zwg (by have := g4.out; rwa [List.take_length] at this)
   clear g0
   go_wp2
   go_ret
   exact ⟨-1, rfl, ⟨fun h => absurd h (by decide), fun h => absurd h HN.out⟩, HBX.out⟩
theorem zhas_any (v : Value) (l : List Int) (c : Int) (w : World) (hv : Zs w v l) (hl : l.length ≤ 1000000) :
  Calls Tryz.prog 42 #[v, .int .i64 c] w fun e w' => e = .returned (.bool (decide (c ∈ l))) /\ Below w.heap.size w w' := by
 have HV := zwg hv
 clear hv
 go_enter Tryz.func42, Tryz.ntmps42
 go_wp2_with fail
 refine (zidx_any v l c w HV.out hl).mono ?_
 rintro e w1 ⟨i, rfl, hi, hb⟩
 have HI : Hid (decide (0 ≤ i) = decide (c ∈ l)) := zwg (decide_eq_decide.2 hi)
 have HB := zwg hb
 clear hi hb
 go_wp2
 go_ret
 exact ⟨by rw [← HI.out]; rfl, HB.out⟩
def V.pathOf (ok : Bool) (l : List V.Comp) (i : Int) : List Int := if ok = true /\ 0 ≤ i /\ i < l.length then (V.anc l i).reverse else []
theorem anc_lenU {l : List V.Comp} {ok : Bool} {i : Int} (h : ok = true -> V.qg l l.length = true) : (V.pathOf ok l i).length ≤ l.length := by
 unfold V.pathOf
 split
 ·rename_i q
  rw [List.length_reverse]
  exact V.zoo (h q.1) i q.2.2
 ·simp
theorem zp9 (d : List Int) (time : Int) (v : Value) (l : List V.Comp) (c : Int) (X O : Nat) (h : V.Hit) (u : Sd) (w : World) (hm : zj w) (hd : d.length = 32) (g1 : ∀ n ∈ d, (Lit.int .u8 n).wf = true) (hv : Comps w v l) (hl : l.length ≤ 100000)
  (hX : w.heap[X]? = some (.cells (icells d time v) 29 (0, 0))) (hO : w.heap[O]? = some (.cells #[.int .i64 c] 3 (0, 0))) :
  Calls Tryz.prog 41 #[.agg (hE (h, u)).toArray, .pointer (some ⟨X, 0, none⟩), .pointer (some ⟨O, 0, none⟩)] w fun e w' => e = .returned (.bool (!decide (c ∈ V.pathOf (V.jo d time l) l h.comp))) /\ Below w.heap.size w w' := by
 have HM := zwg hm
 have HL := zwg hv
 have HD := zwg hd
 have g2 := zwg g1
 have g3 := zwg (ql hd time v)
 obtain ⟨⟨ua, un, uc⟩, hu⟩ : ∃ y, y = u := ⟨_, rfl⟩
 subst hu
 unfold hE Sd.v
 obtain ⟨W0, hW0⟩ : ∃ W0, W0 = w.alloc (.cells #[.int .i64 h.comp, .string ⟨h.id.toArray⟩, .int .i64 h.sev, .slice ua un uc] 63) := ⟨_, rfl⟩
 have g0 : Below w.heap.size w W0 := by rw [hW0]; exact (zwj w.heap.size w).alloc (zwi _) _
 have HB0 := zwg g0
 have HX := zwg ((g0.block _ (Array.getElem?_eq_some_iff.1 hX).1).trans hX)
 have HO := zwg ((g0.block _ (Array.getElem?_eq_some_iff.1 hO).1).trans hO)
 have HG : Hid (W0.heap[w.heap.size]? = some (.cells #[.int .i64 h.comp, .string ⟨h.id.toArray⟩, .int .i64 h.sev, .slice ua un uc] 63 (0, 0))) := zwg (by rw [hW0]; exact heap_alloc_new w _)
 have HW := zwg hW0
 have HXl : Hid (X < W0.heap.size) := zwg (Array.getElem?_eq_some_iff.1 HX.out).1
 have g4 : Hid (O < W0.heap.size) := zwg (Array.getElem?_eq_some_iff.1 HO.out).1
 have HOK : Hid ((V.pathOf (V.jo d time l) l h.comp).length ≤ 1000000) := zwg (Nat.le_trans (anc_lenU (fun h => by unfold V.jo at h; exact (Bool.and_eq_true_iff.1 h).2)) (by omega))
 clear hd g1 hm hv g0 hX hO hW0
 go_enter Tryz.func41, Tryz.ntmps41
 go_wp2_with fail
 rw [← HW.out]
 have h0 : W0.cell? ⟨w.heap.size, 0, none⟩ = some (.int .i64 h.comp) := by rw [cell_of_row _ _ _ _ _ _ HG.out]; rfl
 have o0 : W0.cell? ⟨O, 0, none⟩ = some (.int .i64 c) := by rw [cell_of_row _ _ _ _ _ _ HO.out]; rfl
 refine wp_region_held_drew (S := (fun W' => Below W0.heap.size W0 W')) (by kernel_rfl) ((zwj _ W0).drew) (fun hHeld => ?_)
 refine tv 0 (.agg (icells d time v)) ?_ ?_
 ·exact fun w' hSw => zdo (ty := 29) rfl rfl (zc5 ((hSw.block X HXl.out).trans HX.out) Tryz.underlying29 rfl (by rw [yw, g3.out]))
 refine tk 1 ?_
 refine tv 2 (.int .i64 h.comp) ?_ ?_
 ·exact fun w' hSw => zdo rfl rfl (by have hq := zf hSw h0; go_simp)
 refine tv 4 (.int .i64 c) ?_ ?_
 ·exact fun w' hSw => zdo rfl rfl (by have hq := zf hSw o0; go_simp)
 refine rd 3 fun K hK => ?_
 go_simp
 refine (zu2 d time v l h.comp _ (HM.out.below (HB0.out.trans (hHeld.mono HB0.out.size))) HD.out g2.out (HL.out.below (HB0.out.trans (hHeld.mono HB0.out.size))) hl).mono ?_
 rintro e w3 ⟨pv, rfl, hz, hb3⟩
 try dsimp only
 have HZ : Hid (Zs w3 pv (V.pathOf (V.jo d time l) l h.comp)) := zwg hz
 refine hK.out _ _ ?_ (fun hHeld => nx ?_)
 ·(try dsimp only); exact hHeld.trans (hb3.mono hHeld.size)
 clear hK K
 refine rd 5 fun K hK => ?_
 go_simp
 refine (zhas_any _ _ c _ (HZ.out.below (zwj _ _)) HOK.out).mono ?_
 rintro e w5 ⟨rfl, hb5⟩
 try dsimp only
 refine hK.out _ _ ?_ (fun hHeld => nx ?_)
 ·(try dsimp only); exact hHeld.trans (hb5.mono hHeld.size)
 clear hK K
 refine tk 6 ?_
 refine tk 7 ?_
 refine wpAnyH_done (by kernel_rfl) ?_ _
 have HE := zwh HB0 hHeld
 clear hHeld h0 o0
 go_wp2
 go_ret
 exact ⟨rfl, HE.out⟩
end Go.Proofs.YtbikeahmldobkaaGreatDoor
