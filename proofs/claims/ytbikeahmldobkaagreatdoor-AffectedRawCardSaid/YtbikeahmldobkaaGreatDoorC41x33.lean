/-
  Lemmas for the law.
-/
import Derived.Test.YtbikeahmldobkaaGreatDoorC41x12
import Derived.Test.YtbikeahmldobkaaGreatDoorC41x32
import Derived.Test.YtbikeahmldobkaaGreatDoorC41x26
import Derived.Test.YtbikeahmldobkaaGreatDoorC41x24
set_option linter.all false
set_option maxRecDepth 100000
set_option maxHeartbeats 1600000
namespace Go.Proofs.YtbikeahmldobkaaGreatDoor
open Go.RowKit
theorem znv {w : World} {g i : Nat} {d : List Int} {T : TypeId} {fr : Nat × Nat} (h : w.heap[g]? = some (.cells (dcells d) T fr)) (hd : d.length = 32) (hi : i < 32) : w.cell? ⟨g, i, none⟩ = some (.int .u8 (d.getD i 0)) := by
 rw [cell_of_row w g i _ _ _ h]
 unfold dcells zk
 rw [List.getElem?_toArray, List.getElem?_map, List.getElem?_eq_getElem (by omega), List.getD_eq_getElem?_getD, List.getElem?_eq_getElem (by omega)]
 rfl
theorem V.cmpI_at : ∀ {a b : List Int} {i : Nat}, i < a.length -> a.length = b.length -> (∀ j, j < i -> a.getD j 0 = b.getD j 0) -> a.getD i 0 ≠ b.getD i 0 -> (V.cmpI a b < 0 ↔ a.getD i 0 < b.getD i 0)
 | [], _, i, h, _, _, _ => absurd h (Nat.not_lt_zero _)
 | _ :: _, [], _, _, h, _, _ => by simp at h
 | x :: a, y :: b, 0, _, _, _, hn => by
  simp only [List.getD_cons_zero] at hn ⊢
  unfold V.cmpI
  by_cases h1 : x < y
  ·simp [h1]
  ·rw [if_neg h1, if_pos (by omega)]
   exact ⟨fun h => absurd h (by decide), fun h => absurd h h1⟩
 | x :: a, y :: b, i + 1, hi, hl, he, hn => by
  have h0 := he 0 (by omega)
  simp only [List.getD_cons_zero] at h0
  subst h0
  unfold V.cmpI
  rw [if_neg (by omega), if_neg (by omega)]
  simp only [List.getD_cons_succ] at hn ⊢
  exact V.cmpI_at (by simpa using hi) (by simpa using hl) (fun j hj => by have := he (j + 1) (by omega); simpa using this) hn
theorem V.eq_at {a b : List Int} (hl : a.length = b.length) (he : ∀ j, j < a.length -> a.getD j 0 = b.getD j 0) : a = b := by
 apply List.ext_getElem hl
 intro j h1 h2
 have := he j h1
 rwa [List.getD_eq_getElem?_getD, List.getD_eq_getElem?_getD, List.getElem?_eq_getElem h1, List.getElem?_eq_getElem h2] at this
theorem zhl (a b : List Int) (w : World) (ha : qg a) (hb : qg b) :
  Calls Tryz.prog 74 #[.agg (dcells a), .agg (dcells b)] w fun e w' => e = .returned (.bool (decide (V.cmpI a b < 0))) /\ Below w.heap.size w w' := by
 obtain ⟨W0, hW0⟩ : ∃ W0, W0 = (w.alloc (.cells (dcells a) 26)).alloc (.cells (dcells b) 26) := ⟨_, rfl⟩
 have HB0 : Hid (Below w.heap.size w W0) := zpa (by rw [hW0]; exact ((zpd _ w).alloc (zpc _) _).alloc (by simp) _)
 have K0 : Hid (W0.heap[w.heap.size]? = some (.cells (dcells a) 26 (0, 0))) := zpa (by rw [hW0, heap_alloc, if_neg (by simp), heap_alloc, if_pos rfl])
 have K1 : Hid (W0.heap[w.heap.size + 1]? = some (.cells (dcells b) 26 (0, 0))) := zpa (by rw [hW0, heap_alloc, if_pos (by simp)])
 have HW := zpa hW0
 have HA := zpa ha
 have HB := zpa hb
 have HZ : Hid (w.heap.size + 2 = W0.heap.size) := zpa (by rw [hW0]; simp)
 clear hW0 ha hb
 go_enter Tryz.func74, Tryz.ntmps74
 go_wp2_with fail
 rw [← HW.out]
 go_loopw [5] (fun iv wx => ∃ i : Nat, i ≤ 32 /\ iv = .int .i64 i /\ Below W0.heap.size W0 wx /\ (∀ j, j < i -> a.getD j 0 = b.getD j 0)) (fun iv _ => 32 - (intOf iv).toNat)
 case atStart => exact ⟨0, by omega, rfl, zpd _ _, fun j hj => absurd hj (by omega)⟩
 case round =>
  obtain ⟨i, hi, rfl, hbx, he⟩ := hrel
  have HBX := zpa hbx
  have HE := zpa he
  have HBW := zpb HB0 hbx
  clear hbx he
  by_cases hlt : i < 32
  ·have c0 := znv ((HBX.out.block _ (by have := HZ.out; omega)).trans K0.out) HA.out.1 hlt
   have c1 := znv ((HBX.out.block _ (by have := HZ.out; omega)).trans K1.out) HB.out.1 hlt
   have i1 : (0 : Int) ≤ (i : Int) := by omega
   have i2 : (i : Int) < 32 := by omega
   have H1 : Hid (i < a.length /\ a.length = b.length) := zpa ⟨by rw [HA.out.1]; exact hlt, by rw [HA.out.1, HB.out.1]⟩
   obtain ⟨x, hx⟩ : ∃ x, x = a.getD i 0 := ⟨_, rfl⟩
   obtain ⟨y, hy⟩ : ∃ y, y = b.getD i 0 := ⟨_, rfl⟩
   rw [← hx] at c0
   rw [← hy] at c1
   have HXY := zpa (And.intro hx hy)
   clear hx hy
   by_cases hxy : x = y
   ·have HN : Hid (∀ j, j < i + 1 -> a.getD j 0 = b.getD j 0) := zpa (fun j hj => by
      by_cases e : j = i
      · subst e; rw [← HXY.out.1, ← HXY.out.2]; exact hxy
      · exact HE.out j (by omega))
    have hxb : (x == y) = true := by rw [beq_iff_eq]; exact hxy
    subst hxy
    go_wp2_with fail
    go_quiet (fail)
    have HBQ := zpa (below_drewN HBX.out nq)
    clear c0 c1
    generalize wr.drewN nq = wq at *
    go_wp2
    go_roundw
    case rel => exact ⟨i + 1, by omega, by go_num, HBQ.out, HN.out⟩
    case measure => simp [intOf]; omega
   ·have HR : Hid (decide (V.cmpI a b < 0) = decide (x < y)) := zpa (by rw [decide_eq_decide, V.cmpI_at H1.out.1 H1.out.2 HE.out (by rw [← HXY.out.1, ← HXY.out.2]; exact hxy), ← HXY.out.1, ← HXY.out.2])
    have hxb : (x == y) = false := by rw [zpe]; exact hxy
    clear hxy
    go_wp2_with fail
    go_quiet (fail)
    have HBQ := zpa (HBW.out.trans ((below_drewN (zpd _ wr) nq).mono HBW.out.size))
    replace c0 := zg (below_drewN (zpd _ wr) nq) c0
    replace c1 := zg (below_drewN (zpd _ wr) nq) c1
    generalize wr.drewN nq = wq at *
    go_wp2_with fail
    go_quiet (fail)
    have HBR := zpa (HBQ.out.trans ((below_drewN (zpd _ wq) nq).mono HBQ.out.size))
    generalize wq.drewN nq = wz at *
    clear c0 c1
    go_wp2
    go_ret
    exact ⟨by rw [HR.out]; rfl, HBR.out⟩
  ·obtain rfl : i = 32 := by omega
   have HR : Hid (decide (V.cmpI a b < 0) = false) := zpa (by
     have e : a = b := V.eq_at (by rw [HA.out.1, HB.out.1]) (fun j hj => HE.out j (by rw [HA.out.1] at hj; exact hj))
     rw [e, (V.xm b b).2 rfl]; rfl)
   go_wp2
   go_ret
   exact ⟨by rw [HR.out]; rfl, HBW.out⟩
theorem zf8 {ops : Array Oper} {o : Oper} {a : Act} {w : World} {K : Act -> Prop} {E : Prop} (hw : Region.wanted o (yielded ops a.tmps) = true) (x y : Operand) (ho : o.op = .binOp .eql 26 x y 26)
  (c d : List Int) (hc : qg c) (hd : qg d) (hx : a.eval x = .agg (dcells c)) (hy : a.eval y = .agg (dcells d)) (h : K (a.put o.dst (.bool (decide (c = d))))) :
  if Region.wanted o (yielded ops a.tmps) = true then o.still Tryz.prog a w K else E := by
 rw [if_pos hw]
 unfold Oper.still execOp
 simp only [ho, hx, hy, Sem.run_bind, run_eqGuard_agg w .eql 26 x y _ _ jo, Result.andThen_ok, run_eql_struct, zim hc.1 hc.2 hd.1 hd.2, Sem.run_pure, Oper.stillUpon_value]
 exact h
theorem zef {w : World} {g : Nat} {d : List Int} {T : TypeId} {fr : Nat × Nat} (h : w.heap[g]? = some (.cells (dcells d) T fr)) : w.rangeAt g 0 (zk d) := fun j u hj => by
 rw [Nat.zero_add, cell_of_row w g j _ _ _ h]
 unfold dcells
 simpa using hj
theorem ya {o : Oper} {ev : Operand -> Value} {w : World} {x : Operand} {b off : Nat} {d : List Int} (ho : o.op = .load 26 x) (hx : ev x = .pointer (some ⟨b, off, none⟩)) (hd : qg d) (hr : w.rangeAt b off (zk d)) : (execOp ev o).run Tryz.prog w = .ok (.value (.agg (dcells d))) w := by
 unfold execOp
 have hl : (Instr.loadAt 26 (.pointer (some ⟨b, off, none⟩))).run Tryz.prog w = .ok (.agg (dcells d)) w := run_loadAt_mid w b off _ (zk d) _ hr Tryz.underlying26 rfl (by rw [zch, wg hd])
 simp only [ho, hx, Sem.run_bind, hl, Result.andThen_ok, Sem.run_pure]
theorem zoc (v : Value) (l : List (List Int)) (d : List Int) (w : World) (hv : Digs w v l) (hd : qg d) (hl : l.length ≤ 100000) :
  Calls Tryz.prog 73 #[v, .agg (dcells d)] w fun e w' => e = .returned (.bool (decide (d ∈ l))) /\ Below w.heap.size w w' := by
 obtain ⟨va, vc, rfl, hat⟩ := hv
 obtain ⟨W0, hW0⟩ : ∃ W0, W0 = w.alloc (.cells (dcells d) 26) := ⟨_, rfl⟩
 have HB0 : Hid (Below w.heap.size w W0) := zpa (by rw [hW0]; exact (zpd _ w).alloc (zpc _) _)
 have K0 : Hid (W0.heap[w.heap.size]? = some (.cells (dcells d) 26 (0, 0))) := zpa (by rw [hW0]; exact heap_alloc_new w _)
 have HZ : Hid (w.heap.size < W0.heap.size) := zpa (by rw [hW0]; simp)
 have HA := zpa hat
 have HDD := zpa hd
 have HW := zpa hW0
 clear hat hd hW0
 go_enter Tryz.func73, Tryz.ntmps73
 go_wp2_with fail
 rw [← HW.out]
 go_loopw [5] (fun iv wx => ∃ i : Nat, i ≤ l.length /\ iv = .int .i64 i /\ Below W0.heap.size W0 wx /\ (∀ j (h : j < l.length), j < i -> l[j] ≠ d)) (fun iv _ => l.length - (intOf iv).toNat)
 case atStart => exact ⟨0, Nat.zero_le _, rfl, zpd _ _, fun j _ hj => absurd hj (by omega)⟩
 case round =>
  obtain ⟨i, hi, rfl, hbx, hne⟩ := hrel
  have HBX := zpa hbx
  have HE := zpa hne
  have HBW := zpb HB0 hbx
  clear hbx hne
  by_cases hlt : i < l.length
  ·obtain ⟨hdw, g, off, rfl, hgl, hc⟩ := HA.out i hlt
   have HD := zpa hdw
   have HR := zpa (zh (zh hc HBW.out) (zpd _ wr).drew)
   have HR' := zpa (zh (zef ((HBX.out.block _ HZ.out).trans K0.out)) (zpd _ wr).drew)
   have hi1 : (0 : Int) ≤ (i : Int) := by omega
   have hi2 : (i : Int) < (l.length : Int) := by omega
   have HM : Hid (l[i] ∈ l) := zpa (List.getElem_mem hlt)
   have HN : Hid (l[i] ≠ d -> ∀ j (h : j < l.length), j < i + 1 -> l[j] ≠ d) := zpa (fun hn j h hj => by
     by_cases e : j = i
     · subst e; exact hn
     · exact HE.out j h (by omega))
   clear hc hdw
   generalize l[i] = x at *
   go_wp2
   refine wp_region_still_lit (by kernel_rfl) (by kernel_rfl) ?_
   still_step
   still_step
   still_step
   refine wpStill_step (fun K hK => ?_)
   refine jr rfl (.tmp 14) rfl g (off + i * 32) rfl x HD.out HR.out (hK _ ?_)
   clear hK K
   refine wpStill_step (fun K hK => ?_)
   refine jr rfl (.tmp 3) rfl w.heap.size 0 rfl d HDD.out HR'.out (hK _ ?_)
   clear hK K
   refine wpStill_step (fun K hK => ?_)
   refine zf8 rfl (.tmp 15) (.tmp 16) rfl x d HD.out HDD.out rfl rfl (hK _ ?_)
   clear hK K
   refine wpStill_nil ?_
   have HBD := zpa HBX.out.drew
   have HBE := zpa HBW.out.drew
   change Exit.then _ _ _ _ wr.drew
   by_cases hxd : x = d
   ·rw [decide_eq_true hxd]
    have HF : Hid (decide (d ∈ l) = true) := zpa (decide_eq_true (hxd ▸ HM.out))
    clear hxd
    go_wp2
    go_ret
    exact ⟨by rw [HF.out]; rfl, HBE.out⟩
   ·rw [decide_eq_false hxd]
    have HNN := zpa (HN.out hxd)
    clear hxd
    go_wp2
    go_roundw
    case rel => exact ⟨i + 1, by omega, by go_num, HBD.out, HNN.out⟩
    case measure => simp [intOf]; omega
  ·obtain rfl : i = l.length := by omega
   have HF : Hid (decide (d ∈ l) = false) := zpa (decide_eq_false (fun hm => by
     obtain ⟨j, hj, e⟩ := List.mem_iff_getElem.1 hm
     exact HE.out j hj hj e))
   go_wp2
   go_ret
   exact ⟨by rw [HF.out]; rfl, HBW.out⟩
end Go.Proofs.YtbikeahmldobkaaGreatDoor
