/-
  Lemmas for the law.
-/
import Derived.Test.YtnhfaincdabdkaaGreatDoorC31x16
import Derived.Test.YtnhfaincdabdkaaGreatDoorC31x14
import Derived.Deep.MidRow
import Derived.Great.BuildSlice
import Derived.Deep.Upon
set_option linter.all false
set_option maxRecDepth 100000
set_option maxHeartbeats 3200000
namespace Go.Proofs.YtnhfaincdabdkaaGreatDoor
open Go.RowKit
def bvals (l : V.Bs) : List Value := l.map fun b => Value.int .u8 b.toNat
theorem zuf (l m : V.Bs) : bvals l ++ Lib.strCells ⟨m.toArray⟩ = bvals (l ++ m) := by simp [bvals, Lib.strCells]
theorem zjs (l m : V.Bs) : bvals l ++ bvals m = bvals (l ++ m) := by simp [bvals]
theorem zmp (l : V.Bs) : (bvals l).length = l.length := by simp [bvals]
theorem zzr {P : Prop} (h : P := by
 obtain ⟨i, hi, hzz⟩ := Option.map_eq_some_iff.1 h
 simp only [Prod.mk.injEq] at hzz
 exact ⟨i, hi, hzz.1, hzz.2.1, hzz.2.2⟩) : P := h
theorem zce : ∃ i, Tryz.prog.info? 5 = some i /\ i.zero = some (.int .u8 0) /\ i.size = 1 /\ i.bytes = 1 := by
 have h : (Tryz.prog.info? 5).map (fun i => (i.zero, i.size, i.bytes)) = some (some (.int .u8 0), 1, 1) := by kernel_rfl
 exact zzr
def Buf (N : Nat) (v : Value) (l : V.Bs) (W0 w : World) : Prop := Lib.OwnBuf N 5 v l.length (bvals l) W0 w
theorem Buf.nil {N : Nat} {W0 w : World} (h : Below N W0 w) (hN : N ≤ w.heap.size) : Buf N (.slice none 0 0) [] W0 w := ⟨World.ownsRowF_nil _ _ _ _, h, hN⟩
theorem Buf.below {N : Nat} {v : Value} {l : V.Bs} {W0 w w' : World} (h : Buf N v l W0 w) (hb : Below w.heap.size w w') : Buf N v l W0 w' :=
 ⟨h.1.kept (row := none) ⟨hb.os, hb.tape, hb.output, hb.size, fun k hk _ => hb.block k hk⟩ (by cases hv : v.ownBlock <;> simp), h.2.1.trans (hb.mono h.2.2), Nat.le_trans h.2.2 hb.size⟩
theorem Buf.slice {N : Nat} {v : Value} {l : V.Bs} {W0 w : World} (h : Buf N v l W0 w) : ∃ a cap, v = .slice a l.length cap := by
 rcases h.1.2 with ⟨rfl, hn⟩ | ⟨g, cap, cur, fz, rfl, _⟩
 ·exact ⟨none, 0, by rw [hn]⟩
 ·exact ⟨_, cap, rfl⟩
theorem uh {ops : Array Oper} {rest : List Oper} {o : Oper} {a : Act} {w : World} {Q : Exit -> Act -> World -> Prop} (hgd : o.guard = none) (s x : Operand)
  (ho : o.op = .call { callee := .builtin .append, args := #[s, x], argTypes := #[22, 22] })
  (N : Nat) (v : Value) (l : V.Bs) (W0 : World) (hs : a.eval s = v) (hb : Buf N v l W0 w) (b cap : Nat) (m : V.Bs) (hx : a.eval x = .slice (some ⟨b, 0, none⟩) m.length cap) (hc : ∀ j u, (bvals m)[j]? = some u -> w.cell? ⟨b, j, none⟩ = some u) (hl : l.length + m.length ≤ 10000000)
  (h : ∀ v' w', Buf N v' (l ++ m) W0 w' -> wpList Tryz.prog ops Q rest (a.put o.dst v') w') : wpList Tryz.prog ops Q (o :: rest) a w := by
 obtain ⟨i, hi, hz, h1, h2⟩ := zce
 refine wpList_append_ownF w hgd s x 22 ho N 5 i (.int .u8 0) 1 1 Tryz.underlying22 hi hz h1 h2 rfl (by decide) v l.length (bvals l) hs hb.1 ⟨b, 0, none⟩ m.length cap (bvals m) hx (by rw [zmp]; omega) ?_ ?_ (by unfold maxLen; omega) (by omega) hb.2.2 ?_
 ·intro j u hj
  have := hc j u hj
  rw [Addr.add_mid, Nat.zero_add]
  exact this
 ·intro u hu
  unfold bvals at hu
  obtain ⟨c, _, rfl⟩ := List.mem_map.1 hu
  rfl
 ·intro v' w' ho' hg _
  refine h v' w' ?_
  have := hb.grown ho' hg
  rw [zjs] at this
  unfold Buf
  rw [List.length_append]
  exact this
theorem ziq {ops : Array Oper} {rest : List Oper} {o : Oper} {a : Act} {w : World} {Q : Exit -> Act -> World -> Prop} (hgd : o.guard = none) (s x : Operand)
  (ho : o.op = .call { callee := .builtin .append, args := #[s, x], argTypes := #[22, 9] })
  (N : Nat) (v : Value) (l : V.Bs) (W0 : World) (hs : a.eval s = v) (hb : Buf N v l W0 w) (m : V.Bs) (hx : a.eval x = .string ⟨m.toArray⟩) (hl : l.length + m.length ≤ 10000000)
  (h : ∀ v' w', Buf N v' (l ++ m) W0 w' -> wpList Tryz.prog ops Q rest (a.put o.dst v') w') : wpList Tryz.prog ops Q (o :: rest) a w := by
 obtain ⟨i, hi, hz, h1, h2⟩ := zce
 have hsz : (ByteArray.mk m.toArray).size = m.length := by simp [ByteArray.size]
 refine Lib.wpList_append_text hgd s x 22 9 ho N 5 i Tryz.underlying22 Tryz.underlying9 hi hz h1 h2 v l.length (bvals l) hs W0 hb ⟨m.toArray⟩ hx (by rw [hsz]; omega) ?_
 intro v' w' ho'
 refine h v' w' ?_
 rw [zuf, hsz] at ho'
 unfold Buf
 rw [List.length_append]
 exact ho'
theorem ztk {ops : Array Oper} {rest : List Oper} {o : Oper} {a : Act} {w : World} {Q : Exit -> Act -> World -> Prop} (hgd : o.guard = none) (c : Operand) (ho : o.op = .makeSlice 22 (.const (.int .i64 0)) c)
  (N n : Nat) (W0 : World) (hb : Below N W0 w) (hN : N ≤ w.heap.size) (hc : a.eval c = .int .i64 n) (hn : n ≤ 10000000)
  (h : ∀ w', Buf N (.slice (some ⟨w.heap.size, 0, none⟩) 0 n) [] W0 w' -> wpList Tryz.prog ops Q rest (a.put o.dst (.slice (some ⟨w.heap.size, 0, none⟩) 0 n)) w') : wpList Tryz.prog ops Q (o :: rest) a w := by
 obtain ⟨i, hi, hz, h1, h2⟩ := zce
 refine wpList_make_own w hgd _ c 22 ho N 5 i (.int .u8 0) 1 Tryz.underlying22 hi hz h1 .i64 .i64 n n rfl hc rfl (by rw [h2]; omega) (by unfold maxLen; omega) hN ?_
 intro w' ho' hg
 exact h w' ⟨World.ownsRowF_of ho', hb.grown hg hN (fun k e => by cases e), Nat.le_trans hN hg.size⟩
theorem zca {N : Nat} {v : Value} {l : V.Bs} {W0 w : World} (h : Buf N v l W0 w) (h0 : 0 < l.length) : (convert 22 9 v).run Tryz.prog w = .ok (.string ⟨l.toArray⟩) w := by
 obtain ⟨ho, _, _⟩ := h
 have hcs := fun (g : Nat) hg => ho.cells (g := g) hg
 rcases ho.2 with ⟨_, e⟩ | ⟨g, cap, cur, fz, rfl, _⟩
 ·omega
 ·have hc := hcs g rfl
  have r := run_convert_bytes_arg (P := Tryz.prog) w 22 5 Tryz.underlying22 Tryz.underlying5 g 0 l.length cap (l.map fun b => (b.toNat : Int)) (by simp) (fun i hi => by
    have hu : (bvals l)[i]? = some (.int .u8 ((l.map fun b => (b.toNat : Int)).getD i 0)) := by
      unfold bvals
      rw [List.getElem?_map, List.getElem?_eq_getElem (by omega), List.getD_eq_getElem?_getD, List.getElem?_map, List.getElem?_eq_getElem (by omega)]
      rfl
    have := hc i _ hu
    rw [show (⟨g, 0, none⟩ : Addr).add i = ⟨g, 0 + i, none⟩ by unfold Addr.add; split <;> simp_all] at this
    exact this) 9 Tryz.underlying9
  rw [r]
  congr 2
  apply ji
  rw [strOfNums_data, List.map_map]
  simp only [wg]
  conv => rhs; rw [← List.map_id l]
  apply List.map_congr_left
  intro b _
  simp
theorem xt {o : Oper} {ev : Operand -> Value} {w : World} {x y : Operand} {s : ByteArray} {k : IntKind} {i : Int} {b : UInt8} (ho : o.op = .index 9 x y) (hx : ev x = .string s) (hy : ev y = .int k i) (h0 : 0 ≤ i) (hb : s.data.toList[i.toNat]? = some b) :
  (execOp ev o).run Tryz.prog w = .ok (.value (.int .u8 b.toNat)) w := by
 have h1 := (List.getElem?_eq_some_iff.1 hb).1
 have h2 : i.toNat < s.size := by rw [Array.length_toList] at h1; exact h1
 have he : s[i.toNat] = b := by
  rw [← (List.getElem?_eq_some_iff.1 hb).2]
  rfl
 have hr := run_index_string (P := Tryz.prog) w 9 s k i Tryz.underlying9
 rw [dif_pos ⟨h0, by omega⟩, he] at hr
 unfold execOp
 simp only [ho, hx, hy, Sem.run_bind, hr, Result.andThen_ok, Sem.run_pure]
theorem zts {o : Oper} {ev : Operand -> Value} {w : World} {x : Operand} {c : UInt8} (ho : o.op = .binOp .shr 5 x (.const (.int .u64 4)) 51) (hc : ev (.const (.int .u64 4)) = .int .u64 4) (hx : ev x = .int .u8 c.toNat) : (execOp ev o).run Tryz.prog w = .ok (.value (.int .u8 ((c.toNat / 16 : Nat) : Int))) w := by
 unfold execOp
 simp only [ho, hx, hc]
 go_simp
theorem and15 : ∀ n : Fin 256, bits BinOp.and .u8 (n.val : Int) 15 = (n.val : Int) % 16 := by decide +kernel
theorem zp4 {o : Oper} {ev : Operand -> Value} {w : World} {x : Operand} {c : UInt8} (ho : o.op = .binOp .and 5 x (.const (.int .u8 15)) 5) (hc : ev (.const (.int .u8 15)) = .int .u8 15) (hx : ev x = .int .u8 c.toNat) : (execOp ev o).run Tryz.prog w = .ok (.value (.int .u8 ((c.toNat % 16 : Nat) : Int))) w := by
 unfold execOp
 simp only [ho, hx, hc]
 go_simp
 exact and15 ⟨c.toNat, c.toNat_lt⟩
theorem zfs {ops : Array Oper} {o : Oper} {a : Act} {w : World} {K : Act -> World -> Prop} {Q : Exit -> Act -> World -> Prop} {E : Prop} (hgd : o.guard = none) (e1 e2 e3 : Operand) (ho : o.op = .buildSlice 22 3 #[(0, e1), (1, e2), (2, e3)])
  (b1 b2 b3 : UInt8) (h1 : a.eval e1 = .int .u8 b1.toNat) (h2 : a.eval e2 = .int .u8 b2.toNat) (h3 : a.eval e3 = .int .u8 b3.toNat)
  (h : K (a.put o.dst (.slice (some ⟨w.heap.size, 0, none⟩) 3 3)) (w.alloc (.cells (bvals [b1, b2, b3]).toArray 5))) : if Region.wanted o (yielded ops a.tmps) = true then Oper.wp Tryz.prog o a w K Q else E := by
 rw [if_pos (by simp [Region.wanted, hgd])]
 obtain ⟨i, hi, hz, hs, hb⟩ := zce
 refine wp_buildSlice _ 5 3 _ ho (bvals [b1, b2, b3]).toArray i _ Tryz.underlying22 hi hz (by rw [hs]; decide) (by rw [hs]; decide) ?_ h
 have := Great.fill_whole (s := 1) (by decide) [Value.int .u8 b1.toNat, Value.int .u8 b2.toNat, Value.int .u8 b3.toNat] ((Array.range (3 * i.size)).map ((Value.int .u8 0).cells[· % (Value.int .u8 0).cells.size]!)) (fun v hv => by
   rcases List.mem_cons.1 hv with rfl | hv
   · rfl
   · rcases List.mem_cons.1 hv with rfl | hv
     · rfl
     · rw [List.mem_singleton.1 hv]; rfl) (by rw [hs]; simp)
 rw [hs] at this ⊢
 simp only [h1, h2, h3, List.map_toArray, List.map_cons, List.map_nil]
 exact this.trans (by simp [Value.cells, bvals])
theorem zj7 {ops : Array Oper} {o : Oper} {a : Act} {w : World} {K : Act -> World -> Prop} {Q : Exit -> Act -> World -> Prop} {E : Prop} (hgd : o.guard = none) (s x : Operand)
  (ho : o.op = .call { callee := .builtin .append, args := #[s, x], argTypes := #[22, 22] })
  (N : Nat) (v : Value) (l : V.Bs) (W0 : World) (hs : a.eval s = v) (hb : Buf N v l W0 w) (b cap : Nat) (m : V.Bs) (hx : a.eval x = .slice (some ⟨b, 0, none⟩) m.length cap) (hc : ∀ j u, (bvals m)[j]? = some u -> w.cell? ⟨b, j, none⟩ = some u) (hl : l.length + m.length ≤ 10000000)
  (h : ∀ v' w', Buf N v' (l ++ m) W0 w' -> K (a.put o.dst v') w') : if Region.wanted o (yielded ops a.tmps) = true then Oper.wp Tryz.prog o a w K Q else E := by
 rw [if_pos (by simp [Region.wanted, hgd])]
 obtain ⟨i, hi, hz, h1, h2⟩ := zce
 obtain ⟨v', w', hr, ho', hg, _⟩ := run_append_ownF (P := Tryz.prog) w N 22 o.type 5 i (.int .u8 0) 1 1 Tryz.underlying22 hi hz h1 h2 rfl (by decide) v l.length (bvals l) hb.1 ⟨b, 0, none⟩ m.length cap (bvals m) (by rw [zmp]; omega) (by
   intro j u hj
   have := hc j u hj
   rw [Addr.add_mid, Nat.zero_add]
   exact this) (by
   intro u hu
   unfold bvals at hu
   obtain ⟨c, _, rfl⟩ := List.mem_map.1 hu
   rfl) (by unfold maxLen; omega) (by omega) hb.2.2
 unfold Oper.wp execOp
 simp only [ho, resolve, invoke, builtin, Sem.run_bind, Sem.run_pure, Result.andThen_ok, List.map_toArray, List.map_cons, List.map_nil, hs, hx, hr]
 refine h v' w' ?_
 have := hb.grown ho' hg
 rw [zjs] at this
 unfold Buf
 rw [List.length_append]
 exact this
theorem ks (m : V.Bs) (w : World) : ∀ j u, (bvals m)[j]? = some u -> (w.alloc (.cells (bvals m).toArray 5)).cell? ⟨w.heap.size, j, none⟩ = some u := fun j u h => by
 rw [World.cell?_alloc_new]
 simpa using h
theorem zu8 {P : Prop} (h : P := by
 have f4 : ¬ (s[k].toNat : Int) = 46 := by omega
 have f5 : ((s[k].toNat : Int) == 46) = false := by rw [zu2]; omega
 have f6 : ¬ (s[k].toNat : Int) = 95 := by omega
 have f7 : ((s[k].toNat : Int) == 95) = false := by rw [zu2]; omega
 have f8 : ¬ (s[k].toNat : Int) = 45 := by omega
 have f9 : ((s[k].toNat : Int) == 45) = false := by rw [zu2]; omega
 clear hc HNO HST
 go_wp2
 go_ret
 exact ⟨zc HP.out.symm, rfl⟩) : P := h
theorem zvn {P : Prop} (h : P := by
 have f4 : ¬ (s[k].toNat : Int) = 46 := by omega
 have f5 : ((s[k].toNat : Int) == 46) = false := by rw [zu2]; omega
 have f6 : ¬ (s[k].toNat : Int) = 95 := by omega
 have f7 : ((s[k].toNat : Int) == 95) = false := by rw [zu2]; omega
 have f8 : ¬ (s[k].toNat : Int) = 45 := by omega
 have f9 : ((s[k].toNat : Int) == 45) = false := by rw [zu2]; omega
 clear hc HNO HST
 go_wp2
 go_round
 case rel => exact ⟨k + 1, by omega, by go_num, HY.out⟩
 case measure => simp [intOf]; omega) : P := h
theorem zvu {P : Prop} (h : P := by
 clear hc HNO HST
 go_wp2
 go_round
 case rel => exact ⟨k + 1, by omega, by go_num, HY.out⟩
 case measure => simp [intOf]; omega) : P := h
theorem zwo {P : Prop} (h : P := by
 clear hc HNO HST
 go_wp2
 go_ret
 exact ⟨zc HP.out.symm, rfl⟩) : P := h
theorem zw2 {P : Prop} (h : P := by
 go_wp2
 go_ret
 exact ⟨zc HP.out.symm, rfl⟩) : P := h
theorem zpp (s : ByteArray) (w : World) (hs : s.size ≤ maxLen) : Calls Tryz.prog 69 #[.string s] w fun e w' => e = .returned (.bool (V.xy s.data.toList)) /\ w' = w := by
 have hl := zf s
 unfold maxLen at hs
 by_cases h0 : s.size = 0
 ·have hs0 : s = ⟨#[]⟩ := ji (by rw [List.length_eq_zero_iff.1 (by omega : s.data.toList.length = 0)])
  subst hs0
  go_enter Tryz.func69, Tryz.ntmps69
  go_wp2
  go_ret
  exact ⟨rfl, rfl⟩
 have q0 : ¬ (s.size : Int) < 1 := by omega
 have hne : s.data.toList ≠ [] := fun e => by rw [e] at hl; exact h0 hl.symm
 have hse : s.toList.isEmpty = false := by
  rw [Lib.toList_data]
  cases hq : s.data.toList with
  | nil => exact absurd hq hne
  | cons c r => rfl
 have hse2 : (s.data.toList == []) = false := by rw [zu2]; exact hne
 clear hne
 by_cases h64 : 64 < s.size
 ·have HP : Hid (V.xy s.data.toList = false) := zuy (decide_eq_false fun hp => by have := hp.2.1; omega)
  have q1 : (64 : Int) < (s.size : Int) := by omega
  clear hl
  go_enter Tryz.func69, Tryz.ntmps69
  exact zw2
 have q1 : ¬ (64 : Int) < (s.size : Int) := by omega
 have HL := zuy hl
 clear hl
 go_enter Tryz.func69, Tryz.ntmps69
 go_wp2
 go_loop [3] (fun iv => ∃ k : Nat, k ≤ s.size /\ iv = .int .i64 k /\ ∀ j (h : j < s.data.toList.length), j < k -> V.nmAt j s.data.toList[j] = true) (fun iv => s.size - (intOf iv).toNat)
 case atStart => exact ⟨0, Nat.zero_le _, rfl, fun j _ h => absurd h (Nat.not_lt_zero _)⟩
 case round =>
  obtain ⟨k, hk, rfl, hat⟩ := hrel
  have HAT := zuy hat
  clear hat
  by_cases hlt : k < s.size
  ·have he : s.data.toList[k]'(by have := HL.out; omega) = s[k] := by simp; rfl
   have HNO := zuy (V.zo4 (s := s.data.toList) (k := k) (by have := HL.out; omega))
   have HST : Hid (V.nmAt k s[k] = true -> ∀ j (h : j < s.data.toList.length), j < k + 1 -> V.nmAt j s.data.toList[j] = true) := zuy (fun hy j h hj => by
     by_cases hjk : j < k
     · exact HAT.out j h hjk
     · obtain rfl : j = k := by omega
       rw [he]; exact hy)
   rw [he] at HNO
   clear he HAT
   have i1 : (0 : Int) ≤ (k : Int) := by omega
   have i2 : (k : Int) < (s.size : Int) := by omega
   have wr1 : IntKind.i64.wrap ((k : Int) + 1) = (k : Int) + 1 := IntWalk.i64_in _ (by omega)
   have hcl : (s[k].toNat < 48 /\ s[k].toNat ≠ 45 /\ s[k].toNat ≠ 46) ∨ (s[k].toNat = 45) ∨ (s[k].toNat = 46) ∨ (48 ≤ s[k].toNat /\ s[k].toNat ≤ 57) ∨ (58 ≤ s[k].toNat /\ s[k].toNat < 97 /\ s[k].toNat ≠ 95) ∨ (s[k].toNat = 95) ∨ (97 ≤ s[k].toNat /\ s[k].toNat ≤ 122) ∨ (123 ≤ s[k].toNat) := by omega
   rcases hcl with hc | hc | hc | hc | hc | hc | hc | hc
   ·have HP := zuy (HNO.out (by simp [V.nmAt, V.nmA, V.nmP]; omega))
    by_cases hk0 : 0 < k
    ·have j0 : (0 : Int) < (k : Int) := by omega
     have f0 : ¬ (97 : Int) ≤ (s[k].toNat : Int) := by omega
     have f1 : (s[k].toNat : Int) ≤ 122 := by omega
     have f2 : ¬ (48 : Int) ≤ (s[k].toNat : Int) := by omega
     have f3 : (s[k].toNat : Int) ≤ 57 := by omega
     exact zu8
    ·have j0 : ¬ (0 : Int) < (k : Int) := by omega
     have f0 : ¬ (97 : Int) ≤ (s[k].toNat : Int) := by omega
     have f1 : (s[k].toNat : Int) ≤ 122 := by omega
     have f2 : ¬ (48 : Int) ≤ (s[k].toNat : Int) := by omega
     have f3 : (s[k].toNat : Int) ≤ 57 := by omega
     exact zu8
   ·by_cases hk0 : 0 < k
    ·have HY := zuy (HST.out (by simp [V.nmAt, V.nmP, hc, hk0]))
     have j0 : (0 : Int) < (k : Int) := by omega
     have f0 : ¬ (97 : Int) ≤ (s[k].toNat : Int) := by omega
     have f1 : (s[k].toNat : Int) ≤ 122 := by omega
     have f2 : ¬ (48 : Int) ≤ (s[k].toNat : Int) := by omega
     have f3 : (s[k].toNat : Int) ≤ 57 := by omega
     have f4 : ¬ (s[k].toNat : Int) = 46 := by omega
     have f5 : ((s[k].toNat : Int) == 46) = false := by rw [zu2]; omega
     have f6 : ¬ (s[k].toNat : Int) = 95 := by omega
     have f7 : ((s[k].toNat : Int) == 95) = false := by rw [zu2]; omega
     have f8 : (s[k].toNat : Int) = 45 := by omega
     exact zvu
    ·have HP := zuy (HNO.out (by simp [V.nmAt, V.nmA, hc, hk0]))
     have j0 : ¬ (0 : Int) < (k : Int) := by omega
     have f0 : ¬ (97 : Int) ≤ (s[k].toNat : Int) := by omega
     have f1 : (s[k].toNat : Int) ≤ 122 := by omega
     have f2 : ¬ (48 : Int) ≤ (s[k].toNat : Int) := by omega
     have f3 : (s[k].toNat : Int) ≤ 57 := by omega
     have f4 : ¬ (s[k].toNat : Int) = 46 := by omega
     have f5 : ((s[k].toNat : Int) == 46) = false := by rw [zu2]; omega
     have f6 : ¬ (s[k].toNat : Int) = 95 := by omega
     have f7 : ((s[k].toNat : Int) == 95) = false := by rw [zu2]; omega
     have f8 : (s[k].toNat : Int) = 45 := by omega
     exact zwo
   ·by_cases hk0 : 0 < k
    ·have HY := zuy (HST.out (by simp [V.nmAt, V.nmP, hc, hk0]))
     have j0 : (0 : Int) < (k : Int) := by omega
     have f0 : ¬ (97 : Int) ≤ (s[k].toNat : Int) := by omega
     have f1 : (s[k].toNat : Int) ≤ 122 := by omega
     have f2 : ¬ (48 : Int) ≤ (s[k].toNat : Int) := by omega
     have f3 : (s[k].toNat : Int) ≤ 57 := by omega
     have f4 : (s[k].toNat : Int) = 46 := by omega
     have f5 : ¬ (s[k].toNat : Int) = 95 := by omega
     have f6 : ((s[k].toNat : Int) == 95) = false := by rw [zu2]; omega
     have f7 : ¬ (s[k].toNat : Int) = 45 := by omega
     have f8 : ((s[k].toNat : Int) == 45) = false := by rw [zu2]; omega
     exact zvu
    ·have HP := zuy (HNO.out (by simp [V.nmAt, V.nmA, hc, hk0]))
     have j0 : ¬ (0 : Int) < (k : Int) := by omega
     have f0 : ¬ (97 : Int) ≤ (s[k].toNat : Int) := by omega
     have f1 : (s[k].toNat : Int) ≤ 122 := by omega
     have f2 : ¬ (48 : Int) ≤ (s[k].toNat : Int) := by omega
     have f3 : (s[k].toNat : Int) ≤ 57 := by omega
     have f4 : (s[k].toNat : Int) = 46 := by omega
     have f5 : ¬ (s[k].toNat : Int) = 95 := by omega
     have f6 : ((s[k].toNat : Int) == 95) = false := by rw [zu2]; omega
     have f7 : ¬ (s[k].toNat : Int) = 45 := by omega
     have f8 : ((s[k].toNat : Int) == 45) = false := by rw [zu2]; omega
     exact zwo
   ·have HY := zuy (HST.out (by simp [V.nmAt, V.nmA, hc]))
    have f0 : ¬ (97 : Int) ≤ (s[k].toNat : Int) := by omega
    have f1 : (s[k].toNat : Int) ≤ 122 := by omega
    have f2 : (48 : Int) ≤ (s[k].toNat : Int) := by omega
    have f3 : (s[k].toNat : Int) ≤ 57 := by omega
    exact zvn
   ·have HP := zuy (HNO.out (by simp [V.nmAt, V.nmA, V.nmP]; omega))
    by_cases hk0 : 0 < k
    ·have j0 : (0 : Int) < (k : Int) := by omega
     have f0 : ¬ (97 : Int) ≤ (s[k].toNat : Int) := by omega
     have f1 : (s[k].toNat : Int) ≤ 122 := by omega
     have f2 : (48 : Int) ≤ (s[k].toNat : Int) := by omega
     have f3 : ¬ (s[k].toNat : Int) ≤ 57 := by omega
     exact zu8
    ·have j0 : ¬ (0 : Int) < (k : Int) := by omega
     have f0 : ¬ (97 : Int) ≤ (s[k].toNat : Int) := by omega
     have f1 : (s[k].toNat : Int) ≤ 122 := by omega
     have f2 : (48 : Int) ≤ (s[k].toNat : Int) := by omega
     have f3 : ¬ (s[k].toNat : Int) ≤ 57 := by omega
     exact zu8
   ·by_cases hk0 : 0 < k
    ·have HY := zuy (HST.out (by simp [V.nmAt, V.nmP, hc, hk0]))
     have j0 : (0 : Int) < (k : Int) := by omega
     have f0 : ¬ (97 : Int) ≤ (s[k].toNat : Int) := by omega
     have f1 : (s[k].toNat : Int) ≤ 122 := by omega
     have f2 : (48 : Int) ≤ (s[k].toNat : Int) := by omega
     have f3 : ¬ (s[k].toNat : Int) ≤ 57 := by omega
     have f4 : ¬ (s[k].toNat : Int) = 46 := by omega
     have f5 : ((s[k].toNat : Int) == 46) = false := by rw [zu2]; omega
     have f6 : (s[k].toNat : Int) = 95 := by omega
     have f7 : ¬ (s[k].toNat : Int) = 45 := by omega
     have f8 : ((s[k].toNat : Int) == 45) = false := by rw [zu2]; omega
     exact zvu
    ·have HP := zuy (HNO.out (by simp [V.nmAt, V.nmA, hc, hk0]))
     have j0 : ¬ (0 : Int) < (k : Int) := by omega
     have f0 : ¬ (97 : Int) ≤ (s[k].toNat : Int) := by omega
     have f1 : (s[k].toNat : Int) ≤ 122 := by omega
     have f2 : (48 : Int) ≤ (s[k].toNat : Int) := by omega
     have f3 : ¬ (s[k].toNat : Int) ≤ 57 := by omega
     have f4 : ¬ (s[k].toNat : Int) = 46 := by omega
     have f5 : ((s[k].toNat : Int) == 46) = false := by rw [zu2]; omega
     have f6 : (s[k].toNat : Int) = 95 := by omega
     have f7 : ¬ (s[k].toNat : Int) = 45 := by omega
     have f8 : ((s[k].toNat : Int) == 45) = false := by rw [zu2]; omega
     exact zwo
   ·have HY := zuy (HST.out (by simp [V.nmAt, V.nmA, hc]))
    have f0 : (97 : Int) ≤ (s[k].toNat : Int) := by omega
    have f1 : (s[k].toNat : Int) ≤ 122 := by omega
    have f2 : (48 : Int) ≤ (s[k].toNat : Int) := by omega
    have f3 : ¬ (s[k].toNat : Int) ≤ 57 := by omega
    exact zvn
   ·have HP := zuy (HNO.out (by simp [V.nmAt, V.nmA, V.nmP]; omega))
    by_cases hk0 : 0 < k
    ·have j0 : (0 : Int) < (k : Int) := by omega
     have f0 : (97 : Int) ≤ (s[k].toNat : Int) := by omega
     have f1 : ¬ (s[k].toNat : Int) ≤ 122 := by omega
     have f2 : (48 : Int) ≤ (s[k].toNat : Int) := by omega
     have f3 : ¬ (s[k].toNat : Int) ≤ 57 := by omega
     exact zu8
    ·have j0 : ¬ (0 : Int) < (k : Int) := by omega
     have f0 : (97 : Int) ≤ (s[k].toNat : Int) := by omega
     have f1 : ¬ (s[k].toNat : Int) ≤ 122 := by omega
     have f2 : (48 : Int) ≤ (s[k].toNat : Int) := by omega
     have f3 : ¬ (s[k].toNat : Int) ≤ 57 := by omega
     exact zu8
  ·obtain rfl : k = s.size := by omega
   have HP : Hid (V.xy s.data.toList = true) := zuy (decide_eq_true ⟨by have := HL.out; omega, by have := HL.out; omega, fun j h => HAT.out j h (by have := HL.out; omega)⟩)
   exact zw2
theorem zws {P : Prop} (h : P := by
 go_enter Tryz.func72, Tryz.ntmps72
 go_wp2
 go_ret
 exact ⟨zc HP.out.symm, rfl⟩) : P := h
theorem zzv {P : Prop} (h : P := by
 rcases Nat.eq_zero_or_pos k with e | e
 · have := HZK.out e; omega
 · exact e) : P := h
theorem zn5 (s : ByteArray) (w : World) (hs : s.size ≤ maxLen) : Calls Tryz.prog 72 #[.string s] w fun e w' => e = .returned (.bool (V.xy s.data.toList)) /\ w' = w := by
 have hl := zf s
 unfold maxLen at hs
 by_cases h0 : s.size = 0
 ·have hs0 : s = ⟨#[]⟩ := ji (by rw [List.length_eq_zero_iff.1 (by omega : s.data.toList.length = 0)])
  subst hs0
  go_enter Tryz.func72, Tryz.ntmps72
  go_wp2
  go_ret
  exact ⟨rfl, rfl⟩
 have q0 : ¬ (s.size : Int) < 1 := by omega
 have hne : s.data.toList ≠ [] := fun e => by rw [e] at hl; exact h0 hl.symm
 have hse : s.toList.isEmpty = false := by
  rw [Lib.toList_data]
  cases hq : s.data.toList with
  | nil => exact absurd hq hne
  | cons c r => rfl
 have hse2 : (s.data.toList == []) = false := by rw [zu2]; exact hne
 clear hne
 by_cases h64 : 64 < s.size
 ·have HP : Hid (V.xy s.data.toList = false) := zuy (decide_eq_false fun hp => by have := hp.2.1; omega)
  have q1 : (64 : Int) < (s.size : Int) := by omega
  clear hl
  exact zws
 have q1 : ¬ (64 : Int) < (s.size : Int) := by omega
 have HL := zuy hl
 have i00 : 0 < s.size := by omega
 have he0 : s.data.toList[0]'(by omega) = s[0]'i00 := by simp; rfl
 have HN0 := zuy (V.zo4 (s := s.data.toList) (k := 0) (by omega))
 rw [he0] at HN0
 clear he0 hl
 have i0 : (0 : Int) < (s.size : Int) := by omega
 by_cases z46 : (s[0]'i00).toNat = 46
 ·have HP : Hid (V.xy s.data.toList = false) := zuy (HN0.out (by simp [V.nmAt, V.nmA, V.nmP, z46]))
  have y46 : ((s[0]'i00).toNat : Int) = 46 := by omega
  clear z46
  exact zws
 have y46 : ¬ ((s[0]'i00).toNat : Int) = 46 := by omega
 have x46 : (((s[0]'i00).toNat : Int) == 46) = false := by rw [zu2]; exact y46
 by_cases z95 : (s[0]'i00).toNat = 95
 ·have HP : Hid (V.xy s.data.toList = false) := zuy (HN0.out (by simp [V.nmAt, V.nmA, V.nmP, z95]))
  have y95 : ((s[0]'i00).toNat : Int) = 95 := by omega
  clear z95
  exact zws
 have y95 : ¬ ((s[0]'i00).toNat : Int) = 95 := by omega
 have x95 : (((s[0]'i00).toNat : Int) == 95) = false := by rw [zu2]; exact y95
 by_cases z45 : (s[0]'i00).toNat = 45
 ·have HP : Hid (V.xy s.data.toList = false) := zuy (HN0.out (by simp [V.nmAt, V.nmA, V.nmP, z45]))
  have y45 : ((s[0]'i00).toNat : Int) = 45 := by omega
  clear z45
  exact zws
 have y45 : ¬ ((s[0]'i00).toNat : Int) = 45 := by omega
 have x45 : (((s[0]'i00).toNat : Int) == 45) = false := by rw [zu2]; exact y45
 have HZ := zuy (And.intro z46 (And.intro z95 z45))
 clear z46 z95 z45 HN0
 go_enter Tryz.func72, Tryz.ntmps72
 go_wp2
 go_loop [3] (fun iv => ∃ k : Nat, k ≤ s.size /\ iv = .int .i64 k /\ ∀ j (h : j < s.data.toList.length), j < k -> V.nmAt j s.data.toList[j] = true) (fun iv => s.size - (intOf iv).toNat)
 case atStart => exact ⟨0, Nat.zero_le _, rfl, fun j _ h => absurd h (Nat.not_lt_zero _)⟩
 case round =>
  obtain ⟨k, hk, rfl, hat⟩ := hrel
  have HAT := zuy hat
  clear hat
  by_cases hlt : k < s.size
  ·have he : s.data.toList[k]'(by have := HL.out; omega) = s[k] := by simp; rfl
   have HNO := zuy (V.zo4 (s := s.data.toList) (k := k) (by have := HL.out; omega))
   have HST : Hid (V.nmAt k s[k] = true -> ∀ j (h : j < s.data.toList.length), j < k + 1 -> V.nmAt j s.data.toList[j] = true) := zuy (fun hy j h hj => by
     by_cases hjk : j < k
     · exact HAT.out j h hjk
     · obtain rfl : j = k := by omega
       rw [he]; exact hy)
   rw [he] at HNO
   clear he HAT
   have HZK : Hid (k = 0 -> s[k].toNat ≠ 46 /\ s[k].toNat ≠ 95 /\ s[k].toNat ≠ 45) := zuy (fun e => by subst e; exact HZ.out)
   have i1 : (0 : Int) ≤ (k : Int) := by omega
   have i2 : (k : Int) < (s.size : Int) := by omega
   have wr1 : IntKind.i64.wrap ((k : Int) + 1) = (k : Int) + 1 := IntWalk.i64_in _ (by omega)
   have hcl : (s[k].toNat < 48 /\ s[k].toNat ≠ 45 /\ s[k].toNat ≠ 46) ∨ (s[k].toNat = 45) ∨ (s[k].toNat = 46) ∨ (48 ≤ s[k].toNat /\ s[k].toNat ≤ 57) ∨ (58 ≤ s[k].toNat /\ s[k].toNat < 97 /\ s[k].toNat ≠ 95) ∨ (s[k].toNat = 95) ∨ (97 ≤ s[k].toNat /\ s[k].toNat ≤ 122) ∨ (123 ≤ s[k].toNat) := by omega
   rcases hcl with hc | hc | hc | hc | hc | hc | hc | hc
   ·have HP := zuy (HNO.out (by simp [V.nmAt, V.nmA, V.nmP]; omega))
    have f0 : ¬ (97 : Int) ≤ (s[k].toNat : Int) := by omega
    have f1 : (s[k].toNat : Int) ≤ 122 := by omega
    have f2 : ¬ (48 : Int) ≤ (s[k].toNat : Int) := by omega
    have f3 : (s[k].toNat : Int) ≤ 57 := by omega
    exact zu8
   ·have HY := zuy (HST.out (by
      have hk0 : 0 < k := by
        exact zzv
      simp [V.nmAt, V.nmP, hc, hk0]))
    have f0 : ¬ (97 : Int) ≤ (s[k].toNat : Int) := by omega
    have f1 : (s[k].toNat : Int) ≤ 122 := by omega
    have f2 : ¬ (48 : Int) ≤ (s[k].toNat : Int) := by omega
    have f3 : (s[k].toNat : Int) ≤ 57 := by omega
    have f4 : ¬ (s[k].toNat : Int) = 46 := by omega
    have f5 : ((s[k].toNat : Int) == 46) = false := by rw [zu2]; omega
    have f6 : ¬ (s[k].toNat : Int) = 95 := by omega
    have f7 : ((s[k].toNat : Int) == 95) = false := by rw [zu2]; omega
    have f8 : (s[k].toNat : Int) = 45 := by omega
    exact zvu
   ·have HY := zuy (HST.out (by
      have hk0 : 0 < k := by
        exact zzv
      simp [V.nmAt, V.nmP, hc, hk0]))
    have f0 : ¬ (97 : Int) ≤ (s[k].toNat : Int) := by omega
    have f1 : (s[k].toNat : Int) ≤ 122 := by omega
    have f2 : ¬ (48 : Int) ≤ (s[k].toNat : Int) := by omega
    have f3 : (s[k].toNat : Int) ≤ 57 := by omega
    have f4 : (s[k].toNat : Int) = 46 := by omega
    have f5 : ¬ (s[k].toNat : Int) = 95 := by omega
    have f6 : ((s[k].toNat : Int) == 95) = false := by rw [zu2]; omega
    have f7 : ¬ (s[k].toNat : Int) = 45 := by omega
    have f8 : ((s[k].toNat : Int) == 45) = false := by rw [zu2]; omega
    exact zvu
   ·have HY := zuy (HST.out (by simp [V.nmAt, V.nmA, hc]))
    have f0 : ¬ (97 : Int) ≤ (s[k].toNat : Int) := by omega
    have f1 : (s[k].toNat : Int) ≤ 122 := by omega
    have f2 : (48 : Int) ≤ (s[k].toNat : Int) := by omega
    have f3 : (s[k].toNat : Int) ≤ 57 := by omega
    exact zvn
   ·have HP := zuy (HNO.out (by simp [V.nmAt, V.nmA, V.nmP]; omega))
    have f0 : ¬ (97 : Int) ≤ (s[k].toNat : Int) := by omega
    have f1 : (s[k].toNat : Int) ≤ 122 := by omega
    have f2 : (48 : Int) ≤ (s[k].toNat : Int) := by omega
    have f3 : ¬ (s[k].toNat : Int) ≤ 57 := by omega
    exact zu8
   ·have HY := zuy (HST.out (by
      have hk0 : 0 < k := by
        exact zzv
      simp [V.nmAt, V.nmP, hc, hk0]))
    have f0 : ¬ (97 : Int) ≤ (s[k].toNat : Int) := by omega
    have f1 : (s[k].toNat : Int) ≤ 122 := by omega
    have f2 : (48 : Int) ≤ (s[k].toNat : Int) := by omega
    have f3 : ¬ (s[k].toNat : Int) ≤ 57 := by omega
    have f4 : ¬ (s[k].toNat : Int) = 46 := by omega
    have f5 : ((s[k].toNat : Int) == 46) = false := by rw [zu2]; omega
    have f6 : (s[k].toNat : Int) = 95 := by omega
    have f7 : ¬ (s[k].toNat : Int) = 45 := by omega
    have f8 : ((s[k].toNat : Int) == 45) = false := by rw [zu2]; omega
    exact zvu
   ·have HY := zuy (HST.out (by simp [V.nmAt, V.nmA, hc]))
    have f0 : (97 : Int) ≤ (s[k].toNat : Int) := by omega
    have f1 : (s[k].toNat : Int) ≤ 122 := by omega
    have f2 : (48 : Int) ≤ (s[k].toNat : Int) := by omega
    have f3 : ¬ (s[k].toNat : Int) ≤ 57 := by omega
    exact zvn
   ·have HP := zuy (HNO.out (by simp [V.nmAt, V.nmA, V.nmP]; omega))
    have f0 : (97 : Int) ≤ (s[k].toNat : Int) := by omega
    have f1 : ¬ (s[k].toNat : Int) ≤ 122 := by omega
    have f2 : (48 : Int) ≤ (s[k].toNat : Int) := by omega
    have f3 : ¬ (s[k].toNat : Int) ≤ 57 := by omega
    exact zu8
  ·obtain rfl : k = s.size := by omega
   have HP : Hid (V.xy s.data.toList = true) := zuy (decide_eq_true ⟨by have := HL.out; omega, by have := HL.out; omega, fun j h => HAT.out j h (by have := HL.out; omega)⟩)
   exact zw2
end Go.Proofs.YtnhfaincdabdkaaGreatDoor
