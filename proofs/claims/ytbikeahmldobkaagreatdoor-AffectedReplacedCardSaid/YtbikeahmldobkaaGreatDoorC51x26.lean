/-
  Lemmas for the law.
-/
import Derived.Test.YtbikeahmldobkaaGreatDoorC51x10
import Derived.Test.YtbikeahmldobkaaGreatDoorC51x25
import Derived.Test.YtbikeahmldobkaaGreatDoorC51x23
import Derived.Test.YtbikeahmldobkaaGreatDoorC51x21
import Derived.Test.YtbikeahmldobkaaGreatDoorC51x04
import Derived.Great.FillDense
import Derived.Great.BuildSlice
set_option linter.all false
set_option maxRecDepth 100000
set_option maxHeartbeats 1600000
namespace Go.Proofs.YtbikeahmldobkaaGreatDoor
open Go.RowKit
theorem zxf {P : Prop} (h : P := by
 unfold dcells zn
 rw [List.getElem?_toArray, List.getElem?_map, List.getElem?_eq_getElem (by omega), List.getD_eq_getElem?_getD, List.getElem?_eq_getElem (by omega)]
 rfl) : P := h
theorem ztf {w : World} {g i : Nat} {d : List Int} {T : TypeId} {fr : Nat × Nat} (h : w.heap[g]? = some (.cells (dcells d) T fr)) (hd : d.length = 32) (hi : i < 32) : w.cell? ⟨g, i, none⟩ = some (.int .u8 (d.getD i 0)) := by
 rw [cell_of_row w g i _ _ _ h]
 exact zxf
theorem V.cmpI_at : ∀ {a b : List Int} {i : Nat}, i < a.length -> a.length = b.length -> (∀ j, j < i -> a.getD j 0 = b.getD j 0) -> a.getD i 0 ≠ b.getD i 0 -> (V.cmpI a b < 0 ↔ a.getD i 0 < b.getD i 0)
 | [], _, i, h, _, _, _ => absurd h (Nat.not_lt_zero _)
 | _ :: _, [], _, _, h, _, _ => by simp at h
 | x :: a, y :: b, 0, _, _, _, hn => by
  simp only [List.getD_cons_zero] at hn ⊢
  unfold V.cmpI
  by_cases h1 : x < y
  ·simp [h1]
  ·rw [if_neg h1, if_pos (by omega)]
   exact ⟨fun h => absurd h (by decide), fun h => absurd h h1⟩
 | x :: a, y :: b, i + 1, hi, hl, he, hn => by
  have h0 := he 0 (by omega)
  simp only [List.getD_cons_zero] at h0
  subst h0
  unfold V.cmpI
  rw [if_neg (by omega), if_neg (by omega)]
  simp only [List.getD_cons_succ] at hn ⊢
  exact V.cmpI_at (by simpa using hi) (by simpa using hl) (fun j hj => by have := he (j + 1) (by omega); simpa using this) hn
theorem V.eq_at {a b : List Int} (hl : a.length = b.length) (he : ∀ j, j < a.length -> a.getD j 0 = b.getD j 0) : a = b := by
 apply List.ext_getElem hl
 intro j h1 h2
 have := he j h1
 rwa [List.getD_eq_getElem?_getD, List.getD_eq_getElem?_getD, List.getElem?_eq_getElem h1, List.getElem?_eq_getElem h2] at this
theorem zlk (a b : List Int) (w : World) (ha : qh a) (hb : qh b) :
  Calls Tryz.prog 74 #[.agg (dcells a), .agg (dcells b)] w fun e w' => e = .returned (.bool (decide (V.cmpI a b < 0))) /\ Below w.heap.size w w' := by
 obtain ⟨W0, hW0⟩ : ∃ W0, W0 = (w.alloc (.cells (dcells a) 26)).alloc (.cells (dcells b) 26) := ⟨_, rfl⟩
 have HB0 : Hid (Below w.heap.size w W0) := zu8 (by rw [hW0]; exact ((zvb _ w).alloc (zva _) _).alloc (by simp) _)
 have K0 : Hid (W0.heap[w.heap.size]? = some (.cells (dcells a) 26 (0, 0))) := zu8 (by rw [hW0, heap_alloc, if_neg (by simp), heap_alloc, if_pos rfl])
 have K1 : Hid (W0.heap[w.heap.size + 1]? = some (.cells (dcells b) 26 (0, 0))) := zu8 (by rw [hW0, heap_alloc, if_pos (by simp)])
 have HW := zu8 hW0
 have HA := zu8 ha
 have HB := zu8 hb
 have HZ : Hid (w.heap.size + 2 = W0.heap.size) := zu8 (by rw [hW0]; simp)
 clear hW0 ha hb
 go_enter Tryz.func74, Tryz.ntmps74
 go_wp2_with fail
 rw [← HW.out]
 go_loopw [5] (fun iv wx => ∃ i : Nat, i ≤ 32 /\ iv = .int .i64 i /\ Below W0.heap.size W0 wx /\ (∀ j, j < i -> a.getD j 0 = b.getD j 0)) (fun iv _ => 32 - (intOf iv).toNat)
 case atStart => exact ⟨0, by omega, rfl, zvb _ _, fun j hj => absurd hj (by omega)⟩
 case round =>
  obtain ⟨i, hi, rfl, g2, he⟩ := hrel
  have HBX := zu8 g2
  have HE := zu8 he
  have g3 := zu9 HB0 g2
  clear g2 he
  by_cases hlt : i < 32
  ·have c0 := ztf ((HBX.out.block _ (by have := HZ.out; omega)).trans K0.out) HA.out.1 hlt
   have c1 := ztf ((HBX.out.block _ (by have := HZ.out; omega)).trans K1.out) HB.out.1 hlt
   have i1 : (0 : Int) ≤ (i : Int) := by omega
   have i2 : (i : Int) < 32 := by omega
   have H1 : Hid (i < a.length /\ a.length = b.length) := zu8 ⟨by rw [HA.out.1]; exact hlt, by rw [HA.out.1, HB.out.1]⟩
   obtain ⟨x, hx⟩ : ∃ x, x = a.getD i 0 := ⟨_, rfl⟩
   obtain ⟨y, hy⟩ : ∃ y, y = b.getD i 0 := ⟨_, rfl⟩
   rw [← hx] at c0
   rw [← hy] at c1
   have g0 := zu8 (And.intro hx hy)
   clear hx hy
   by_cases hxy : x = y
   ·have HN : Hid (∀ j, j < i + 1 -> a.getD j 0 = b.getD j 0) := zu8 (fun j hj => by
      by_cases e : j = i
      · subst e; rw [← g0.out.1, ← g0.out.2]; exact hxy
      · exact HE.out j (by omega))
    have g4 : (x == y) = true := by rw [beq_iff_eq]; exact hxy
    subst hxy
    go_wp2_with fail
    go_quiet (fail)
    have g1 := zu8 (below_drewN HBX.out nq)
    clear c0 c1
    generalize wr.drewN nq = wq at *
    go_wp2
    go_roundw
    case rel => exact ⟨i + 1, by omega, by go_num, g1.out, HN.out⟩
    case measure => simp [intOf]; omega
   ·have HR : Hid (decide (V.cmpI a b < 0) = decide (x < y)) := zu8 (by rw [decide_eq_decide, V.cmpI_at H1.out.1 H1.out.2 HE.out (by rw [← g0.out.1, ← g0.out.2]; exact hxy), ← g0.out.1, ← g0.out.2])
    have g4 : (x == y) = false := by rw [zvc]; exact hxy
    clear hxy
    go_wp2_with fail
    go_quiet (fail)
    have g1 := zu8 (g3.out.trans ((below_drewN (zvb _ wr) nq).mono g3.out.size))
    replace c0 := zf (below_drewN (zvb _ wr) nq) c0
    replace c1 := zf (below_drewN (zvb _ wr) nq) c1
    generalize wr.drewN nq = wq at *
    go_wp2_with fail
    go_quiet (fail)
    have g5 := zu8 (g1.out.trans ((below_drewN (zvb _ wq) nq).mono g1.out.size))
    generalize wq.drewN nq = wz at *
    clear c0 c1
    go_wp2
    go_ret
    exact ⟨by rw [HR.out]; rfl, g5.out⟩
  ·obtain rfl : i = 32 := by omega
   have HR : Hid (decide (V.cmpI a b < 0) = false) := zu8 (by
     have e : a = b := V.eq_at (by rw [HA.out.1, HB.out.1]) (fun j hj => HE.out j (by rw [HA.out.1] at hj; exact hj))
     rw [e, (V.ux b b).2 rfl]; rfl)
   go_wp2
   go_ret
   exact ⟨by rw [HR.out]; rfl, g3.out⟩
theorem zj8 {ops : Array Oper} {o : Oper} {a : Act} {w : World} {K : Act -> Prop} {E : Prop} (hw : Region.wanted o (yielded ops a.tmps) = true) (x y : Operand) (ho : o.op = .binOp .eql 26 x y 26)
  (c d : List Int) (hc : qh c) (hd : qh d) (hx : a.eval x = .agg (dcells c)) (hy : a.eval y = .agg (dcells d)) (h : K (a.put o.dst (.bool (decide (c = d))))) :
  if Region.wanted o (yielded ops a.tmps) = true then o.still Tryz.prog a w K else E := by
 rw [if_pos hw]
 unfold Oper.still execOp
 simp only [ho, hx, hy, Sem.run_bind, run_eqGuard_agg w .eql 26 x y _ _ kr, Result.andThen_ok, run_eql_struct, zmr hc.1 hc.2 hd.1 hd.2, Sem.run_pure, Oper.stillUpon_value]
 exact h
theorem zhy {w : World} {g : Nat} {d : List Int} {T : TypeId} {fr : Nat × Nat} (h : w.heap[g]? = some (.cells (dcells d) T fr)) : w.rangeAt g 0 (zn d) := fun j u hj => by
 rw [Nat.zero_add, cell_of_row w g j _ _ _ h]
 unfold dcells
 simpa using hj
theorem zav {o : Oper} {ev : Operand -> Value} {w : World} {x : Operand} {b off : Nat} {d : List Int} (ho : o.op = .load 26 x) (hx : ev x = .pointer (some ⟨b, off, none⟩)) (hd : qh d) (hr : w.rangeAt b off (zn d)) : (execOp ev o).run Tryz.prog w = .ok (.value (.agg (dcells d))) w := by
 unfold execOp
 have hl : (Instr.loadAt 26 (.pointer (some ⟨b, off, none⟩))).run Tryz.prog w = .ok (.agg (dcells d)) w := run_loadAt_mid w b off _ (zn d) _ hr Tryz.underlying26 rfl (by rw [yj, zcq hd])
 simp only [ho, hx, Sem.run_bind, hl, Result.andThen_ok, Sem.run_pure]
theorem zt6 (v : Value) (l : List (List Int)) (d : List Int) (w : World) (hv : Digs w v l) (hd : qh d) (hl : l.length ≤ 100000) :
  Calls Tryz.prog 73 #[v, .agg (dcells d)] w fun e w' => e = .returned (.bool (decide (d ∈ l))) /\ Below w.heap.size w w' := by
 obtain ⟨va, vc, rfl, g2⟩ := hv
 obtain ⟨W0, hW0⟩ : ∃ W0, W0 = w.alloc (.cells (dcells d) 26) := ⟨_, rfl⟩
 have HB0 : Hid (Below w.heap.size w W0) := zu8 (by rw [hW0]; exact (zvb _ w).alloc (zva _) _)
 have K0 : Hid (W0.heap[w.heap.size]? = some (.cells (dcells d) 26 (0, 0))) := zu8 (by rw [hW0]; exact heap_alloc_new w _)
 have HZ : Hid (w.heap.size < W0.heap.size) := zu8 (by rw [hW0]; simp)
 have HA := zu8 g2
 have g3 := zu8 hd
 have HW := zu8 hW0
 clear g2 hd hW0
 go_enter Tryz.func73, Tryz.ntmps73
 go_wp2_with fail
 rw [← HW.out]
 go_loopw [5] (fun iv wx => ∃ i : Nat, i ≤ l.length /\ iv = .int .i64 i /\ Below W0.heap.size W0 wx /\ (∀ j (h : j < l.length), j < i -> l[j] ≠ d)) (fun iv _ => l.length - (intOf iv).toNat)
 case atStart => exact ⟨0, Nat.zero_le _, rfl, zvb _ _, fun j _ hj => absurd hj (by omega)⟩
 case round =>
  obtain ⟨i, hi, rfl, g0, g4⟩ := hrel
  have HBX := zu8 g0
  have HE := zu8 g4
  have g1 := zu9 HB0 g0
  clear g0 g4
  by_cases hlt : i < l.length
  ·obtain ⟨g5, g, off, rfl, g8, hc⟩ := HA.out i hlt
   have HD := zu8 g5
   have HR := zu8 (zi (zi hc g1.out) (zvb _ wr).drew)
   have g6 := zu8 (zi (zhy ((HBX.out.block _ HZ.out).trans K0.out)) (zvb _ wr).drew)
   have g9 : (0 : Int) ≤ (i : Int) := by omega
   have h0 : (i : Int) < (l.length : Int) := by omega
   have HM : Hid (l[i] ∈ l) := zu8 (List.getElem_mem hlt)
   have HN : Hid (l[i] ≠ d -> ∀ j (h : j < l.length), j < i + 1 -> l[j] ≠ d) := zu8 (fun hn j h hj => by
     by_cases e : j = i
     · subst e; exact hn
     · exact HE.out j h (by omega))
   clear hc g5
   generalize l[i] = x at *
   go_wp2
   refine wp_region_still_lit (by kernel_rfl) (by kernel_rfl) ?_
   still_step
   still_step
   still_step
   refine wpStill_step (fun K hK => ?_)
   refine ku rfl (.tmp 14) rfl g (off + i * 32) rfl x HD.out HR.out (hK _ ?_)
   clear hK K
   refine wpStill_step (fun K hK => ?_)
   refine ku rfl (.tmp 3) rfl w.heap.size 0 rfl d g3.out g6.out (hK _ ?_)
   clear hK K
   refine wpStill_step (fun K hK => ?_)
   refine zj8 rfl (.tmp 15) (.tmp 16) rfl x d HD.out g3.out rfl rfl (hK _ ?_)
   clear hK K
   refine wpStill_nil ?_
   have HBD := zu8 HBX.out.drew
   have HBE := zu8 g1.out.drew
   change Exit.then _ _ _ _ wr.drew
   by_cases hxd : x = d
   ·rw [decide_eq_true hxd]
    have HF : Hid (decide (d ∈ l) = true) := zu8 (decide_eq_true (hxd ▸ HM.out))
    clear hxd
    go_wp2
    go_ret
    exact ⟨by rw [HF.out]; rfl, HBE.out⟩
   ·rw [decide_eq_false hxd]
    have g7 := zu8 (HN.out hxd)
    clear hxd
    go_wp2
    go_roundw
    case rel => exact ⟨i + 1, by omega, by go_num, HBD.out, g7.out⟩
    case measure => simp [intOf]; omega
  ·obtain rfl : i = l.length := by omega
   have HF : Hid (decide (d ∈ l) = false) := zu8 (decide_eq_false (fun hm => by
     obtain ⟨j, hj, e⟩ := List.mem_iff_getElem.1 hm
     exact HE.out j hj hj e))
   go_wp2
   go_ret
   exact ⟨by rw [HF.out]; rfl, g1.out⟩
theorem zcx {P : Program} {o : Oper} {ev : Operand -> Value} {w : World} {ty : TypeId} {x : Operand} {p v : Value} (ho : o.op = .load ty x) (hx : ev x = p) (h : (Instr.loadAt ty p).run P w = .ok v w) : (execOp ev o).run P w = .ok (.value v) w := by
 unfold execOp
 simp only [ho, hx, Sem.run_bind, h, Result.andThen_ok, Sem.run_pure]
theorem zfl {ops : Array Oper} {rest : List Oper} {o : Oper} {a : Act} {w : World} {Q : Exit -> Act -> World -> Prop} (hw : Region.wanted o (yielded ops a.tmps) = true) (v : Value) (he : (execOp a.eval o).run Tryz.prog w = .ok (.value v) w)
  (h : wpList Tryz.prog ops Q rest (a.put o.dst v) w) : wpList Tryz.prog ops Q (o :: rest) a w := by
 unfold wpList
 rw [if_pos hw]
 refine Or.inl ?_
 unfold Oper.wp
 rw [he]
 exact h
theorem zcg {w : World} {g : Nat} {cs : Array Value} {t ty : TypeId} {fr : Nat × Nat} {d : TypeDesc} (hg : w.heap[g]? = some (.cells cs t fr)) (hu : Tryz.prog.underlying ty = some d) (hd : d.isRow = true) (hs : (Tryz.prog.info? ty).map (·.size) = some cs.size) : (Instr.loadAt ty (.pointer (some ⟨g, 0, none⟩))).run Tryz.prog w = .ok (.agg cs) w := by
 have := run_loadAt_mid w g 0 ty cs.toList d (fun i u hu => by rw [Nat.zero_add, cell_of_row w g i _ _ _ hg]; simpa using hu) hu hd (by simpa using hs)
 simpa using this
section
variable {α : Type} {enc : α -> List Value} {k : Nat} {T : TypeId}
theorem jh.sz {bytes : Nat} (h : jh T k bytes) : (Tryz.prog.info? T).map (·.size) = some k := by
 obtain ⟨i, z, hi, _, hs, _⟩ := h
 rw [hi, ← hs]; rfl
def ERow (T : TypeId) (k : Nat) (enc : α -> List Value) (w : World) (g : Nat) (l : List α) : Prop := ∃ cs, w.heap[g]? = some (.cells cs T (0, 0)) /\ l.length * k ≤ cs.size /\ ∀ i, i < l.length * k -> cs[i]? = (l.flatMap enc)[i]?
theorem ERow.lt {w : World} {g : Nat} {l : List α} (h : ERow T k enc w g l) : g < w.heap.size := by
 obtain ⟨cs, hg, _⟩ := h
 exact (Array.getElem?_eq_some_iff.1 hg).1
theorem ERow.at (hk : ∀ x, (enc x).length = k) {w : World} {g : Nat} {l : List α} (h : ERow T k enc w g l) {j : Nat} (hj : j < l.length) : w.rangeAt g (j * k) (enc l[j]) := fun i u hu => by
 obtain ⟨cs, hg, hs, hc⟩ := h
 have hi : i < k := by have := (List.getElem?_eq_some_iff.1 hu).1; rwa [hk] at this
 have hm : (j + 1) * k ≤ l.length * k := Nat.mul_le_mul_right k hj
 have e : (j + 1) * k = j * k + k := Nat.succ_mul j k
 rw [cell_of_row w g _ _ _ _ hg, hc _ (by omega), yf hk j hj i hi]
 exact hu
theorem ERow.below {w w' : World} {g : Nat} {l : List α} (h : ERow T k enc w g l) (hb : Below w.heap.size w w') : ERow T k enc w' g l := by
 have hlt := h.lt
 obtain ⟨cs, hg, hr⟩ := h
 exact ⟨cs, (hb.block g hlt).trans hg, hr⟩
theorem zxj {P : Prop} (h : P := by
 exact ⟨by rw [cell_of_row w g _ _ _ _ hg, Array.getElem?_eq_getElem (by omega)]; rfl, qw hg⟩) : P := h
theorem ERow.there {w : World} {g : Nat} {l : List α} (h : ERow T k enc w g l) {j : Nat} (hj : j < l.length) : w.there g (j * k) k := fun i hi => by
 obtain ⟨cs, hg, hs, _⟩ := h
 have hm : (j + 1) * k ≤ l.length * k := Nat.mul_le_mul_right k hj
 have e : (j + 1) * k = j * k + k := Nat.succ_mul j k
 exact zxj
theorem zbe {g : Nat} {t : TypeId} {fr : Nat × Nat} : ∀ (vs : List Value) (o : Nat) (w : World) (cs : Array Value), w.heap[g]? = some (.cells cs t fr) ->
  ∃ cs', (w.setCells g o vs).heap[g]? = some (.cells cs' t fr) /\ cs'.size = cs.size /\ ∀ i, cs'[i]? = if o ≤ i /\ i < o + vs.length /\ i < cs.size then vs[i - o]? else cs[i]?
 | [], o, w, cs, h => ⟨cs, h, rfl, fun i => by rw [if_neg (by simp; omega)]⟩
 | v :: r, o, w, cs, h => by
  obtain ⟨cs', h1, h2, h3⟩ := zbe r (o + 1) _ _ (kj o v h)
  refine ⟨cs', h1, by rw [h2]; simp, fun i => ?_⟩
  rw [h3]
  simp only [Array.size_setIfInBounds, List.length_cons]
  by_cases hi : i = o
  ·subst hi
   rw [if_neg (by omega), Array.getElem?_setIfInBounds]
   by_cases hs : i < cs.size
   ·rw [if_pos rfl, if_pos hs, if_pos ⟨by omega, by omega, hs⟩]
    simp
   ·rw [if_pos rfl, if_neg hs, if_neg (by omega)]
    exact (Array.getElem?_eq_none (by omega)).symm
  ·by_cases hb : o + 1 ≤ i /\ i < o + 1 + r.length /\ i < cs.size
   ·rw [if_pos hb, if_pos (by omega), show i - o = (i - (o + 1)) + 1 by omega]
    rfl
   ·rw [if_neg hb, if_neg (by omega), Array.getElem?_setIfInBounds_ne (by omega)]
theorem xm (w : World) (row : Option Nat) : w.grownBy w row := ⟨rfl, rfl, rfl, zva _, fun _ _ _ => rfl⟩
theorem yu (g : Nat) : ∀ (vs : List Value) (o : Nat) (w : World), w.grownBy (w.setCells g o vs) (some g)
 | [], _, w => xm w _
 | v :: r, o, w => (qv w g o v).trans (yu g r (o + 1) _)
theorem ze2 (hk : ∀ x, (enc x).length = k) {l : List α} {i : Nat} (hi : i < l.length * k) : 0 < k /\ i / k < l.length /\ i = i / k * k + i % k /\ i % k < k := by
 have h0 : 0 < k := Nat.pos_of_ne_zero (fun h => by rw [h] at hi; simp at hi)
 exact ⟨h0, (Nat.div_lt_iff_lt_mul h0).2 hi, by rw [Nat.mul_comm]; exact (Nat.div_add_mod i k).symm, Nat.mod_lt _ h0⟩
theorem ERow.set (hk : ∀ x, (enc x).length = k) {w : World} {g : Nat} {l : List α} (h : ERow T k enc w g l) {j : Nat} (hj : j < l.length) (x : α) : ERow T k enc (w.setCells g (j * k) (enc x)) g (l.set j x) := by
 obtain ⟨cs, hg, hs, hc⟩ := h
 obtain ⟨cs', h1, h2, h3⟩ := zbe (enc x) (j * k) w cs hg
 refine ⟨cs', h1, by rw [List.length_set, h2]; exact hs, fun i hi => ?_⟩
 rw [List.length_set] at hi
 obtain ⟨h0, hq, he, hr⟩ := ze2 hk hi
 have g0 : i / k < (l.set j x).length := by rw [List.length_set]; exact hq
 rw [h3, hk]
 have hR : ((l.set j x).flatMap enc)[i]? = (enc (l.set j x)[i / k])[i % k]? := by
  conv => lhs; rw [he]
  exact yf hk (i / k) g0 (i % k) hr
 have hL : (l.flatMap enc)[i]? = (enc l[i / k])[i % k]? := by
  conv => lhs; rw [he]
  exact yf hk (i / k) hq (i % k) hr
 rw [hR, List.getElem_set]
 by_cases e : j = i / k
 ·rw [if_pos (by rw [e]; omega), if_pos e, show i - j * k = i % k by rw [e]; omega]
 ·rw [if_neg e, ← hL, ← hc i hi, if_neg]
  rintro ⟨q1, q2, _⟩
  apply e
  have m1 : j * k < (i / k + 1) * k := by rw [Nat.succ_mul]; omega
  have m2 : i / k * k < (j + 1) * k := by rw [Nat.succ_mul]; omega
  have := Nat.lt_of_mul_lt_mul_right m1
  have := Nat.lt_of_mul_lt_mul_right m2
  omega
theorem ERow.tail (hk : ∀ x, (enc x).length = k) {w : World} {g : Nat} {l : List α} (h : ERow T k enc w g l) {m : Nat} (hm : m ≤ l.length) (vs : List Value) : ERow T k enc (w.setCells g (m * k) vs) g (l.take m) := by
 obtain ⟨cs, hg, hs, hc⟩ := h
 obtain ⟨cs', h1, h2, h3⟩ := zbe vs (m * k) w cs hg
 have hl : (l.take m).length = m := by rw [List.length_take]; omega
 have g0 : m * k ≤ l.length * k := Nat.mul_le_mul_right k hm
 refine ⟨cs', h1, by rw [hl, h2]; omega, fun i hi => ?_⟩
 rw [hl] at hi
 rw [h3, if_neg (by omega), hc i (by omega)]
 have e : l.flatMap enc = (l.take m).flatMap enc ++ (l.drop m).flatMap enc := by rw [← List.flatMap_append, List.take_append_drop]
 rw [e, List.getElem?_append_left (by rw [zal hk, hl]; exact hi)]
theorem GRow.row (hk : ∀ x, (enc x).length = k) {w : World} {N : Nat} {v : Value} {l : List α} (h : GRow T k enc w N v l) : v = .slice none 0 0 /\ l = [] ∨ ∃ g cap, v = .slice (some ⟨g, 0, none⟩) l.length cap /\ N ≤ g /\ l.length ≤ cap /\ ERow T k enc w g l := by
 rcases h.2 with ⟨rfl, hn⟩ | ⟨g, cap, cur, rfl, hN, hg, h1, h2, h3, h4⟩
 ·exact .inl ⟨rfl, List.eq_nil_of_length_eq_zero hn⟩
 ·have hm : l.length * k ≤ cap * k := Nat.mul_le_mul_right k h1
  refine .inr ⟨g, cap, rfl, hN, h1, cur, hg, by omega, fun i hi => ?_⟩
  rw [← h4, List.getElem?_take, if_pos hi]
  simp
theorem ERow.gsl (hk : ∀ x, (enc x).length = k) {w : World} {g cap : Nat} {l : List α} (h : ERow T k enc w g l) : GSl k enc w (.slice (some ⟨g, 0, none⟩) l.length cap) l :=
 ⟨_, cap, rfl, fun j hj => ⟨g, 0, rfl, h.lt, fun i u hu => by have := h.at hk hj i u hu; rw [Nat.zero_add]; exact this⟩⟩
theorem zp3 {ops : Array Oper} {rest : List Oper} {o : Oper} {a : Act} {w : World} {Q : Exit -> Act -> World -> Prop} (hk : ∀ x, (enc x).length = k) {bytes : Nat} (hi : jh T k bytes) {d : TypeDesc} (hu : Tryz.prog.underlying T = some d) (hd : d.isRow = true) (g0 : o.guard = none) (y : Operand) (ho : o.op = .load T y)
  (g off : Nat) (hy : a.eval y = .pointer (some ⟨g, off, none⟩)) (x : α) (hr : w.rangeAt g off (enc x))
  (h : wpList Tryz.prog ops Q rest (a.put o.dst (.agg (enc x).toArray)) w) : wpList Tryz.prog ops Q (o :: rest) a w :=
 wpList_load_mid g0 _ y ho g off hy (enc x) d hr hu hd (by rw [hi.sz, hk]) h
theorem zhl {S : TypeId} (hk : ∀ x, (enc x).length = k) (g1 : 0 < k) (g3 : k ≤ 1000) {bytes : Nat} (hi : jh T k bytes) (hu : Tryz.prog.underlying S = some (.slice T)) (x : α) (w : World) :
  (Instr.buildSlice S 1 #[(0, .agg (enc x).toArray)]).run Tryz.prog w = .ok (.slice (some ⟨w.heap.size, 0, none⟩) 1 1) (w.alloc (.cells (enc x).toArray T)) := by
 obtain ⟨ie, z, g2, hz, g0, _, g4⟩ := hi
 have hf := Great.fill_whole (s := k) g1 [Value.agg (enc x).toArray] ((Array.range (1 * ie.size)).map (z.cells[· % z.cells.size]!)) (fun v hv => by
   rcases List.mem_cons.1 hv with rfl | hv
   · show (enc x).toArray.size = k
     rw [List.size_toArray, hk]
   · cases hv) (by rw [g0]; simp)
 refine run_buildSlice w S T 1 _ (enc x).toArray ie z hu g2 hz (by rw [g0]; omega) (by rw [g0]; omega) ?_
 rw [g0] at hf ⊢
 exact hf.trans (by simp [Value.cells])
theorem zex {ops : Array Oper} {rest : List Oper} {o : Oper} {a : Act} {w : World} {Q : Exit -> Act -> World -> Prop} {S : TypeId} (hk : ∀ x, (enc x).length = k) (g0 : 0 < k) (g1 : k ≤ 1000) {bytes : Nat} (hi : jh T k bytes) (hu : Tryz.prog.underlying S = some (.slice T)) (g2 : o.guard = none) (e1 : Operand) (ho : o.op = .buildSlice S 1 #[(0, e1)])
  (x : α) (h1 : a.eval e1 = .agg (enc x).toArray)
  (h : wpList Tryz.prog ops Q rest (a.put o.dst (.slice (some ⟨w.heap.size, 0, none⟩) 1 1)) (w.alloc (.cells (enc x).toArray T))) : wpList Tryz.prog ops Q (o :: rest) a w := by
 refine wpList_plain g2 fun K hK => ?_
 unfold Oper.wp execOp
 have hb := zhl (S := S) hk g0 g1 hi hu x w
 simp only [ho, List.map_toArray, List.map_cons, List.map_nil, h1, Sem.run_bind, hb, Result.andThen_ok, Sem.run_pure]
 exact hK _ _ h
theorem zcf {ops : Array Oper} {o : Oper} {a : Act} {w : World} {K : Act -> World -> Prop} {Q : Exit -> Act -> World -> Prop} {E : Prop} {S : TypeId} (hk : ∀ x, (enc x).length = k) (g0 : 0 < k) (g1 : k ≤ 1000) {bytes : Nat} (hi : jh T k bytes) (hu : Tryz.prog.underlying S = some (.slice T)) (g2 : o.guard = none) (e1 : Operand) (ho : o.op = .buildSlice S 1 #[(0, e1)])
  (x : α) (h1 : a.eval e1 = .agg (enc x).toArray)
  (h : K (a.put o.dst (.slice (some ⟨w.heap.size, 0, none⟩) 1 1)) (w.alloc (.cells (enc x).toArray T))) : if Region.wanted o (yielded ops a.tmps) = true then Oper.wp Tryz.prog o a w K Q else E := by
 rw [if_pos (by simp [Region.wanted, g2])]
 unfold Oper.wp execOp
 have hb := zhl (S := S) hk g0 g1 hi hu x w
 simp only [ho, List.map_toArray, List.map_cons, List.map_nil, h1, Sem.run_bind, hb, Result.andThen_ok, Sem.run_pure]
 exact h
theorem GSl.one {w : World} {b : Nat} {c : α} (hb : b < w.heap.size) (hc : ∀ j u, (enc c)[j]? = some u -> w.cell? ⟨b, j, none⟩ = some u) : GSl k enc w (.slice (some ⟨b, 0, none⟩) 1 1) [c] := by
 refine ⟨_, 1, rfl, fun j hj => ⟨b, 0, rfl, hb, fun i u hu => ?_⟩⟩
 have h0 : j = 0 := by simpa using hj
 subst h0
 rw [Nat.zero_add, Nat.zero_mul, Nat.zero_add]
 exact hc i u hu
theorem zei {w : World} (N : Nat) (S ty : TypeId) {bytes : Nat} (hi : jh T k bytes) (hu : Tryz.prog.underlying S = some (.slice T)) (v : Value) (n : Nat) (xs : List Value) (g1 : w.ownsRow N T k v n xs) (c : Nat) :
  (Builtin.append_ #[S, S] ty #[v, .slice none 0 c]).run Tryz.prog w = .ok v w := by
 obtain ⟨ie, z, g0, _⟩ := hi
 rcases g1.2 with ⟨rfl, rfl⟩ | ⟨g, cap, cur, rfl, _, _, g2, _⟩
 ·simp [Builtin.append_, run_underlying hu, sizeOf, typeInfo, g0, Builtin.lenOf, Builtin.firstCells]
 ·simp [Builtin.append_, run_underlying hu, sizeOf, typeInfo, g0, Builtin.lenOf, Builtin.firstCells, g2, storeCells]
theorem zgv {w : World} (hk : ∀ x, (enc x).length = k) (g1 : 0 < k) (g2 : ∀ x, ∀ u ∈ enc x, u.oneCell' = true) {bytes : Nat} (hi : jh T k bytes) (g3 : bytes ≤ 1000) (S ty : TypeId) (hu : Tryz.prog.underlying S = some (.slice T))
  (N : Nat) (v : Value) (l : List α) (g0 : GRow T k enc w N v l) (u : Value) (ys : List α) (hy : GSl k enc w u ys) (hl : l.length + ys.length ≤ 1000000) (hN : N ≤ w.heap.size) :
  ∃ v' w', (Builtin.append_ #[S, S] ty #[v, u]).run Tryz.prog w = .ok v' w' /\ GRow T k enc w' N v' (l ++ ys) /\ w.grownBy w' v.ownBlock /\ (v'.ownBlock = v.ownBlock ∨ v'.ownBlock = some w.heap.size) := by
 obtain ⟨a, c, rfl⟩ := hy.slice
 rcases a with _ | ad
 ·have hn : ys = [] := by
   cases ys with
   | nil => rfl
   | cons y r => obtain ⟨g, off, e, _⟩ := hy.at 0 (by simp); cases e
  subst hn
  exact ⟨v, w, zei N S ty hi hu v _ _ g0 c, by rw [List.append_nil]; exact g0, xm w _, .inl rfl⟩
 ·obtain ⟨ie, z, g4, hz, h1, h2, h3⟩ := hi
  obtain ⟨v', w', g5, g6, hg, _, g7⟩ := run_append_own_at (P := Tryz.prog) w N S ty T ie z k bytes hu g4 hz h1 h2 h3 g1 v l.length (l.flatMap enc) g0 ad ys.length c (ys.flatMap enc) (zal hk ys) (fun j u hu => by
    have hj := (List.getElem?_eq_some_iff.1 hu).1
    rw [zal hk] at hj
    obtain ⟨h0, hq, he, hr⟩ := ze2 hk hj
    obtain ⟨g, off, e, hg, hc⟩ := hy.at (j / k) hq
    cases e
    rw [he, yf hk (j / k) hq (j % k) hr] at hu
    rw [Addr.add_mid]
    have := hc _ _ hu
    rw [show off + j = off + j / k * k + j % k by omega]
    exact this) (fun u hu => by
      obtain ⟨y, _, hy⟩ := List.mem_flatMap.1 hu
      exact g2 y u hy) (by unfold maxLen; omega) (by
        have : (l.length + ys.length) * bytes ≤ 1000000 * 1000 := Nat.mul_le_mul hl g3
        omega) hN
  refine ⟨v', w', g5, ?_, hg, g7⟩
  unfold GRow
  rw [List.length_append, List.flatMap_append]
  exact g6
theorem yo {ops : Array Oper} {rest : List Oper} {o : Oper} {a : Act} {w : World} {Q : Exit -> Act -> World -> Prop} (hk : ∀ x, (enc x).length = k) (g1 : 0 < k) (g2 : ∀ x, ∀ u ∈ enc x, u.oneCell' = true) {bytes : Nat} (hi : jh T k bytes) (g3 : bytes ≤ 1000) (g4 : o.guard = none) (s x : Operand) (S : TypeId)
  (ho : o.op = .call { callee := .builtin .append, args := #[s, x], argTypes := #[S, S] }) (hu : Tryz.prog.underlying S = some (.slice T))
  (N : Nat) (v : Value) (l : List α) (hs : a.eval s = v) (g0 : GRow T k enc w N v l) (u : Value) (ys : List α) (hx : a.eval x = u) (hy : GSl k enc w u ys) (hl : l.length + ys.length ≤ 1000000) (hN : N ≤ w.heap.size)
  (h : ∀ v' w', GRow T k enc w' N v' (l ++ ys) -> w.grownBy w' v.ownBlock -> (v'.ownBlock = v.ownBlock ∨ v'.ownBlock = some w.heap.size) -> wpList Tryz.prog ops Q rest (a.put o.dst v') w') : wpList Tryz.prog ops Q (o :: rest) a w := by
 refine wpList_plain g4 fun K hK => ?_
 obtain ⟨v', w', hr, h2, h3, h4⟩ := zgv hk g1 g2 hi g3 S o.type hu N v l g0 u ys hy hl hN
 unfold Oper.wp execOp
 simp only [ho, resolve, invoke, builtin, Sem.run_bind, Sem.run_pure, Result.andThen_ok, List.map_toArray, List.map_cons, List.map_nil, hs, hx, hr]
 exact hK _ _ (h v' w' h2 h3 h4)
theorem ya {ops : Array Oper} {o : Oper} {a : Act} {w : World} {K : Act -> World -> Prop} {Q : Exit -> Act -> World -> Prop} {E : Prop} (hk : ∀ x, (enc x).length = k) (g1 : 0 < k) (g2 : ∀ x, ∀ u ∈ enc x, u.oneCell' = true) {bytes : Nat} (hi : jh T k bytes) (g3 : bytes ≤ 1000) (g4 : o.guard = none) (s x : Operand) (S : TypeId)
  (ho : o.op = .call { callee := .builtin .append, args := #[s, x], argTypes := #[S, S] }) (hu : Tryz.prog.underlying S = some (.slice T))
  (N : Nat) (v : Value) (l : List α) (hs : a.eval s = v) (g0 : GRow T k enc w N v l) (u : Value) (ys : List α) (hx : a.eval x = u) (hy : GSl k enc w u ys) (hl : l.length + ys.length ≤ 1000000) (hN : N ≤ w.heap.size)
  (h : ∀ v' w', GRow T k enc w' N v' (l ++ ys) -> w.grownBy w' v.ownBlock -> (v'.ownBlock = v.ownBlock ∨ v'.ownBlock = some w.heap.size) -> K (a.put o.dst v') w') : if Region.wanted o (yielded ops a.tmps) = true then Oper.wp Tryz.prog o a w K Q else E := by
 rw [if_pos (by simp [Region.wanted, g4])]
 obtain ⟨v', w', hr, h2, h3, h4⟩ := zgv hk g1 g2 hi g3 S o.type hu N v l g0 u ys hy hl hN
 unfold Oper.wp execOp
 simp only [ho, resolve, invoke, builtin, Sem.run_bind, Sem.run_pure, Result.andThen_ok, List.map_toArray, List.map_cons, List.map_nil, hs, hx, hr]
 exact h v' w' h2 h3 h4
theorem zls {ops : Array Oper} {o : Oper} {a : Act} {w : World} {K : Act -> World -> Prop} {Q : Exit -> Act -> World -> Prop} {E : Prop} (g1 : o.guard = none) (ty : TypeId) (x y : Operand) (ho : o.op = .store ty x y)
  (g off : Nat) (old : Array Value) (t : TypeId) (hg : w.heap[g]? = some (.cells old t (0, 0))) (g0 : off < old.size) (hx : a.eval x = .pointer (some ⟨g, off, none⟩)) (v : Value) (hy : a.eval y = v) (hi : (Tryz.prog.info? ty).map (·.size) = some 1) (h1 : v.oneCell' = true)
  (h : ∀ W, PutAt w W g (old.setIfInBounds off v) t -> K (a.put o.dst undef) W) : if Region.wanted o (yielded ops a.tmps) = true then Oper.wp Tryz.prog o a w K Q else E := by
 rw [if_pos (by simp [Region.wanted, g1])]
 have hc : w.cell? ⟨g, off, none⟩ = some old[off] := by rw [cell_of_row w g off _ _ _ hg, Array.getElem?_eq_getElem g0]
 have hr : (Instr.storeAt ty (.pointer (some ⟨g, off, none⟩)) v).run Tryz.prog w = .ok () (w.setCell ⟨g, off, none⟩ v) := by
  have := zqa (P := Tryz.prog) hc (qw hg) hi h1
  simp only [Instr.storeAt, Instr.sureAddr, Sem.run_bind, Sem.run_pure, Result.andThen_ok, this]
 unfold Oper.wp execOp
 simp only [ho, hx, hy, Sem.run_bind, hr, Result.andThen_ok, Sem.run_pure]
 exact h _ (zlz hg v)
theorem zst {ops : Array Oper} {rest : List Oper} {o : Oper} {a : Act} {w : World} {Q : Exit -> Act -> World -> Prop} (hk : ∀ x, (enc x).length = k) (g0 : ∀ x, ∀ u ∈ enc x, u.oneCell' = true) {bytes : Nat} (hi : jh T k bytes) (g1 : o.guard = none) (x y : Operand) (ho : o.op = .store T x y)
  (g : Nat) (l : List α) (hr : ERow T k enc w g l) (j : Nat) (hj : j < l.length) (hx : a.eval x = .pointer (some ⟨g, j * k, none⟩)) (z : α) (hy : a.eval y = .agg (enc z).toArray)
  (h : ∀ W, ERow T k enc W g (l.set j z) -> w.grownBy W (some g) -> wpList Tryz.prog ops Q rest (a.put o.dst undef) W) : wpList Tryz.prog ops Q (o :: rest) a w := by
 have hs : (enc z).toArray.size = k := by rw [List.size_toArray, hk]
 refine wpList_store_mid g1 T x y ho g (j * k) (enc z).toArray hx hy (by rw [hs]; exact hr.there hj) (by rw [hi.sz, hs]) (all_oneCell_toArray (g0 z)) ?_
 exact h _ (hr.set hk hj z) (yu g _ _ w)
end
end Go.Proofs.YtbikeahmldobkaaGreatDoor
