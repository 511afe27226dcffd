/-
  Lemmas for the law.
-/
import Derived.Test.YtnhfaincdabdkaaGreatDoorC37x03
import Derived.Test.YtnhfaincdabdkaaGreatDoorC37x08
import Derived.Lib.BufSteps
import Derived.OwnWalk
import Derived.BigRegion
import Derived.Deep.MidRow
import Derived.Great.BuildSlice
import Derived.Deep.Upon
set_option linter.all false
set_option maxRecDepth 100000
namespace Go.Proofs.YtnhfaincdabdkaaGreatDoor
open Go.RowKit
theorem vx (c : UInt8) (w : World) : Calls Tryz.prog 130 #[.int .u8 c.toNat] w fun e w' => e = .returned (.bool (V.qz c)) /\ w' = w := by
 obtain ⟨n, hn⟩ : ∃ n : Int, n = (c.toNat : Int) := ⟨_, rfl⟩
 have HP : Hid (V.qz c = (decide (33 ≤ n) && (decide (n ≤ 125) && (n != 37)))) := zs8 (by
   have hb : (n != 37) = !decide (n = 37) := rfl
   rw [hb]
   unfold V.qz
   rw [decide_eq_decide.2 (show 33 ≤ c.toNat ↔ 33 ≤ n by omega), decide_eq_decide.2 (show c.toNat ≤ 125 ↔ n ≤ 125 by omega), decide_eq_decide.2 (show c.toNat = 37 ↔ n = 37 by omega)])
 rw [← hn]
 clear hn
 go_enter Tryz.func130, Tryz.ntmps130
 go_wp2
 all_goals go_ret
 all_goals exact ⟨zc (by rw [HP.out]; simp_all; try omega), rfl⟩
theorem zjd (c : UInt8) (w : World) : Calls Tryz.prog 120 #[.int .u8 c.toNat] w fun e w' => e = .returned (.bool (V.qz c)) /\ w' = w := by
 obtain ⟨n, hn⟩ : ∃ n : Int, n = (c.toNat : Int) := ⟨_, rfl⟩
 have HP : Hid (V.qz c = (decide (33 ≤ n) && (decide (n ≤ 125) && (n != 37)))) := zs8 (by
   have hb : (n != 37) = !decide (n = 37) := rfl
   rw [hb]
   unfold V.qz
   rw [decide_eq_decide.2 (show 33 ≤ c.toNat ↔ 33 ≤ n by omega), decide_eq_decide.2 (show c.toNat ≤ 125 ↔ n ≤ 125 by omega), decide_eq_decide.2 (show c.toNat = 37 ↔ n = 37 by omega)])
 rw [← hn]
 clear hn
 go_enter Tryz.func120, Tryz.ntmps120
 go_wp2
 all_goals go_ret
 all_goals exact ⟨zc (by rw [HP.out]; simp_all; try omega), rfl⟩
theorem zss {l : V.Bs} {k : Nat} (h : k < l.length) : ((l.take (k + 1)).map V.xu).sum = ((l.take k).map V.xu).sum + V.xu l[k] := by
 exact zw1
theorem zqt (l : V.Bs) (k : Nat) : ((l.take k).map V.xu).sum ≤ 3 * l.length := by
 have := V.sum_le (l.take k)
 rw [List.length_take] at this
 omega
theorem zwm {P : Prop} (h : P := by
 clear hp HT
 go_wp2
 go_round
 case rel => exact ⟨k + 1, by omega, by go_num, by rw [HN.out]; go_num⟩
 case measure => simp [intOf]; omega) : P := h
theorem zfs (s : ByteArray) (w : World) (hs : s.size ≤ 100000) : Calls Tryz.prog 106 #[.string s] w fun e w' => e = .returned (.int .i64 (V.uk s.data.toList : Nat)) /\ w' = w := by
 go_enter Tryz.func106, Tryz.ntmps106
 go_wp2
 go_loop [3, 4] (fun nv iv => ∃ k : Nat, k ≤ s.size /\ iv = .int .i64 k /\ nv = .int .i64 (((s.data.toList.take k).map V.xu).sum : Nat)) (fun _ iv => s.size - (intOf iv).toNat)
 case atStart => exact ⟨0, Nat.zero_le _, rfl, rfl⟩
 case round =>
  obtain ⟨k, hk, rfl, rfl⟩ := hrel
  have hl := zf s
  have hle := zqt s.data.toList k
  rw [hl] at hle
  by_cases hlt : k < s.size
  ·have HT := zs8 (zss (l := s.data.toList) (k := k) (by omega))
   have he : s.data.toList[k]'(by omega) = s[k] := by simp; rfl
   rw [he] at HT
   obtain ⟨q, hq⟩ : ∃ q, q = ((s.data.toList.take k).map V.xu).sum := ⟨_, rfl⟩
   rw [← hq] at HT hle ⊢
   clear he hl hq
   go_wp2_with fail
   refine (vx s[k] w).mono ?_
   rintro e w' ⟨rfl, rfl⟩
   rcases hp : V.qz s[k] with _ | _
   ·have HN : Hid (((s.data.toList.take (k + 1)).map V.xu).sum = q + 3) := zs8 (by rw [HT.out]; unfold V.xu; rw [hp]; rfl)
    exact zwm
   ·have HN : Hid (((s.data.toList.take (k + 1)).map V.xu).sum = q + 1) := zs8 (by rw [HT.out]; unfold V.xu; rw [hp]; rfl)
    exact zwm
  ·obtain rfl : k = s.size := by omega
   have ht : s.data.toList.take s.size = s.data.toList := List.take_of_length_le (by omega)
   rw [ht] at hle ⊢
   have HS : Hid (V.uk s.data.toList = max ((s.data.toList.map V.xu).sum) 1) := zs8 rfl
   obtain ⟨q, hq⟩ : ∃ q, q = (s.data.toList.map V.xu).sum := ⟨_, rfl⟩
   rw [← hq] at HS hle ⊢
   clear ht hl hq
   go_wp2
   go_ret
   exact ⟨by rw [HS.out, show ((max q 1 : Nat) : Int) = max (q : Int) 1 by omega]; rfl, rfl⟩
def bvals (l : V.Bs) : List Value := l.map fun b => Value.int .u8 b.toNat
theorem zsn (l m : V.Bs) : bvals l ++ Lib.strCells ⟨m.toArray⟩ = bvals (l ++ m) := by simp [bvals, Lib.strCells]
theorem zha (l m : V.Bs) : bvals l ++ bvals m = bvals (l ++ m) := by simp [bvals]
theorem zjx (l : V.Bs) : (bvals l).length = l.length := by simp [bvals]
theorem zw0 {P : Prop} (h : P := by
 obtain ⟨i, hi, hzz⟩ := Option.map_eq_some_iff.1 h
 simp only [Prod.mk.injEq] at hzz
 exact ⟨i, hi, hzz.1, hzz.2.1, hzz.2.2⟩) : P := h
theorem za3 : ∃ i, Tryz.prog.info? 5 = some i /\ i.zero = some (.int .u8 0) /\ i.size = 1 /\ i.bytes = 1 := by
 have h : (Tryz.prog.info? 5).map (fun i => (i.zero, i.size, i.bytes)) = some (some (.int .u8 0), 1, 1) := by kernel_rfl
 exact zw0
def Buf (N : Nat) (v : Value) (l : V.Bs) (W0 w : World) : Prop := Lib.OwnBuf N 5 v l.length (bvals l) W0 w
theorem Buf.nil {N : Nat} {W0 w : World} (h : Below N W0 w) (hN : N ≤ w.heap.size) : Buf N (.slice none 0 0) [] W0 w := ⟨World.ownsRowF_nil _ _ _ _, h, hN⟩
theorem Buf.below {N : Nat} {v : Value} {l : V.Bs} {W0 w w' : World} (h : Buf N v l W0 w) (hb : Below w.heap.size w w') : Buf N v l W0 w' :=
 ⟨h.1.kept (row := none) ⟨hb.os, hb.tape, hb.output, hb.size, fun k hk _ => hb.block k hk⟩ (by cases hv : v.ownBlock <;> simp), h.2.1.trans (hb.mono h.2.2), Nat.le_trans h.2.2 hb.size⟩
theorem Buf.slice {N : Nat} {v : Value} {l : V.Bs} {W0 w : World} (h : Buf N v l W0 w) : ∃ a cap, v = .slice a l.length cap := by
 rcases h.1.2 with ⟨rfl, hn⟩ | ⟨g, cap, cur, fz, rfl, _⟩
 ·exact ⟨none, 0, by rw [hn]⟩
 ·exact ⟨_, cap, rfl⟩
theorem vf {ops : Array Oper} {rest : List Oper} {o : Oper} {a : Act} {w : World} {Q : Exit -> Act -> World -> Prop} (hgd : o.guard = none) (s x : Operand)
  (ho : o.op = .call { callee := .builtin .append, args := #[s, x], argTypes := #[22, 22] })
  (N : Nat) (v : Value) (l : V.Bs) (W0 : World) (hs : a.eval s = v) (hb : Buf N v l W0 w) (b cap : Nat) (m : V.Bs) (hx : a.eval x = .slice (some ⟨b, 0, none⟩) m.length cap) (hc : ∀ j u, (bvals m)[j]? = some u -> w.cell? ⟨b, j, none⟩ = some u) (hl : l.length + m.length ≤ 10000000)
  (h : ∀ v' w', Buf N v' (l ++ m) W0 w' -> wpList Tryz.prog ops Q rest (a.put o.dst v') w') : wpList Tryz.prog ops Q (o :: rest) a w := by
 obtain ⟨i, hi, hz, h1, h2⟩ := za3
 refine wpList_append_ownF w hgd s x 22 ho N 5 i (.int .u8 0) 1 1 Tryz.underlying22 hi hz h1 h2 rfl (by decide) v l.length (bvals l) hs hb.1 ⟨b, 0, none⟩ m.length cap (bvals m) hx (by rw [zjx]; omega) ?_ ?_ (by unfold maxLen; omega) (by omega) hb.2.2 ?_
 ·intro j u hj
  have := hc j u hj
  rw [Addr.add_mid, Nat.zero_add]
  exact this
 ·intro u hu
  unfold bvals at hu
  obtain ⟨c, _, rfl⟩ := List.mem_map.1 hu
  rfl
 ·intro v' w' ho' hg _
  refine h v' w' ?_
  have := hb.grown ho' hg
  rw [zha] at this
  unfold Buf
  rw [List.length_append]
  exact this
theorem zgk {ops : Array Oper} {rest : List Oper} {o : Oper} {a : Act} {w : World} {Q : Exit -> Act -> World -> Prop} (hgd : o.guard = none) (s x : Operand)
  (ho : o.op = .call { callee := .builtin .append, args := #[s, x], argTypes := #[22, 9] })
  (N : Nat) (v : Value) (l : V.Bs) (W0 : World) (hs : a.eval s = v) (hb : Buf N v l W0 w) (m : V.Bs) (hx : a.eval x = .string ⟨m.toArray⟩) (hl : l.length + m.length ≤ 10000000)
  (h : ∀ v' w', Buf N v' (l ++ m) W0 w' -> wpList Tryz.prog ops Q rest (a.put o.dst v') w') : wpList Tryz.prog ops Q (o :: rest) a w := by
 obtain ⟨i, hi, hz, h1, h2⟩ := za3
 have hsz : (ByteArray.mk m.toArray).size = m.length := by simp [ByteArray.size]
 refine Lib.wpList_append_text hgd s x 22 9 ho N 5 i Tryz.underlying22 Tryz.underlying9 hi hz h1 h2 v l.length (bvals l) hs W0 hb ⟨m.toArray⟩ hx (by rw [hsz]; omega) ?_
 intro v' w' ho'
 refine h v' w' ?_
 rw [zsn, hsz] at ho'
 unfold Buf
 rw [List.length_append]
 exact ho'
theorem zrm {ops : Array Oper} {rest : List Oper} {o : Oper} {a : Act} {w : World} {Q : Exit -> Act -> World -> Prop} (hgd : o.guard = none) (c : Operand) (ho : o.op = .makeSlice 22 (.const (.int .i64 0)) c)
  (N n : Nat) (W0 : World) (hb : Below N W0 w) (hN : N ≤ w.heap.size) (hc : a.eval c = .int .i64 n) (hn : n ≤ 10000000)
  (h : ∀ w', Buf N (.slice (some ⟨w.heap.size, 0, none⟩) 0 n) [] W0 w' -> wpList Tryz.prog ops Q rest (a.put o.dst (.slice (some ⟨w.heap.size, 0, none⟩) 0 n)) w') : wpList Tryz.prog ops Q (o :: rest) a w := by
 obtain ⟨i, hi, hz, h1, h2⟩ := za3
 refine wpList_make_own w hgd _ c 22 ho N 5 i (.int .u8 0) 1 Tryz.underlying22 hi hz h1 .i64 .i64 n n rfl hc rfl (by rw [h2]; omega) (by unfold maxLen; omega) hN ?_
 intro w' ho' hg
 exact h w' ⟨World.ownsRowF_of ho', hb.grown hg hN (fun k e => by cases e), Nat.le_trans hN hg.size⟩
theorem zd7 {N : Nat} {v : Value} {l : V.Bs} {W0 w : World} (h : Buf N v l W0 w) (h0 : 0 < l.length) : (convert 22 9 v).run Tryz.prog w = .ok (.string ⟨l.toArray⟩) w := by
 obtain ⟨ho, _, _⟩ := h
 have hcs := fun (g : Nat) hg => ho.cells (g := g) hg
 rcases ho.2 with ⟨_, e⟩ | ⟨g, cap, cur, fz, rfl, _⟩
 ·omega
 ·have hc := hcs g rfl
  have r := run_convert_bytes_arg (P := Tryz.prog) w 22 5 Tryz.underlying22 Tryz.underlying5 g 0 l.length cap (l.map fun b => (b.toNat : Int)) (by simp) (fun i hi => by
    have hu : (bvals l)[i]? = some (.int .u8 ((l.map fun b => (b.toNat : Int)).getD i 0)) := by
      unfold bvals
      rw [List.getElem?_map, List.getElem?_eq_getElem (by omega), List.getD_eq_getElem?_getD, List.getElem?_map, List.getElem?_eq_getElem (by omega)]
      rfl
    have := hc i _ hu
    rw [show (⟨g, 0, none⟩ : Addr).add i = ⟨g, 0 + i, none⟩ by unfold Addr.add; split <;> simp_all] at this
    exact this) 9 Tryz.underlying9
  rw [r]
  congr 2
  apply jr
  rw [strOfNums_data, List.map_map]
  simp only [zbt]
  conv => rhs; rw [← List.map_id l]
  apply List.map_congr_left
  intro b _
  simp
theorem yc {o : Oper} {ev : Operand -> Value} {w : World} {x y : Operand} {s : ByteArray} {k : IntKind} {i : Int} {b : UInt8} (ho : o.op = .index 9 x y) (hx : ev x = .string s) (hy : ev y = .int k i) (h0 : 0 ≤ i) (hb : s.data.toList[i.toNat]? = some b) :
  (execOp ev o).run Tryz.prog w = .ok (.value (.int .u8 b.toNat)) w := by
 have h1 := (List.getElem?_eq_some_iff.1 hb).1
 have h2 : i.toNat < s.size := by rw [Array.length_toList] at h1; exact h1
 have he : s[i.toNat] = b := by
  rw [← (List.getElem?_eq_some_iff.1 hb).2]
  rfl
 have hr := run_index_string (P := Tryz.prog) w 9 s k i Tryz.underlying9
 rw [dif_pos ⟨h0, by omega⟩, he] at hr
 unfold execOp
 simp only [ho, hx, hy, Sem.run_bind, hr, Result.andThen_ok, Sem.run_pure]
theorem zrs {o : Oper} {ev : Operand -> Value} {w : World} {x : Operand} {c : UInt8} (ho : o.op = .binOp .shr 5 x (.const (.int .u64 4)) 51) (hc : ev (.const (.int .u64 4)) = .int .u64 4) (hx : ev x = .int .u8 c.toNat) : (execOp ev o).run Tryz.prog w = .ok (.value (.int .u8 ((c.toNat / 16 : Nat) : Int))) w := by
 unfold execOp
 simp only [ho, hx, hc]
 go_simp
theorem and15 : ∀ n : Fin 256, bits BinOp.and .u8 (n.val : Int) 15 = (n.val : Int) % 16 := by decide +kernel
theorem znl {o : Oper} {ev : Operand -> Value} {w : World} {x : Operand} {c : UInt8} (ho : o.op = .binOp .and 5 x (.const (.int .u8 15)) 5) (hc : ev (.const (.int .u8 15)) = .int .u8 15) (hx : ev x = .int .u8 c.toNat) : (execOp ev o).run Tryz.prog w = .ok (.value (.int .u8 ((c.toNat % 16 : Nat) : Int))) w := by
 unfold execOp
 simp only [ho, hx, hc]
 go_simp
 exact and15 ⟨c.toNat, c.toNat_lt⟩
theorem zd3 {ops : Array Oper} {o : Oper} {a : Act} {w : World} {K : Act -> World -> Prop} {Q : Exit -> Act -> World -> Prop} {E : Prop} (hgd : o.guard = none) (e1 e2 e3 : Operand) (ho : o.op = .buildSlice 22 3 #[(0, e1), (1, e2), (2, e3)])
  (b1 b2 b3 : UInt8) (h1 : a.eval e1 = .int .u8 b1.toNat) (h2 : a.eval e2 = .int .u8 b2.toNat) (h3 : a.eval e3 = .int .u8 b3.toNat)
  (h : K (a.put o.dst (.slice (some ⟨w.heap.size, 0, none⟩) 3 3)) (w.alloc (.cells (bvals [b1, b2, b3]).toArray 5))) : if Region.wanted o (yielded ops a.tmps) = true then Oper.wp Tryz.prog o a w K Q else E := by
 rw [if_pos (by simp [Region.wanted, hgd])]
 obtain ⟨i, hi, hz, hs, hb⟩ := za3
 refine wp_buildSlice _ 5 3 _ ho (bvals [b1, b2, b3]).toArray i _ Tryz.underlying22 hi hz (by rw [hs]; decide) (by rw [hs]; decide) ?_ h
 have := Great.fill_whole (s := 1) (by decide) [Value.int .u8 b1.toNat, Value.int .u8 b2.toNat, Value.int .u8 b3.toNat] ((Array.range (3 * i.size)).map ((Value.int .u8 0).cells[· % (Value.int .u8 0).cells.size]!)) (fun v hv => by
   rcases List.mem_cons.1 hv with rfl | hv
   · rfl
   · rcases List.mem_cons.1 hv with rfl | hv
     · rfl
     · rw [List.mem_singleton.1 hv]; rfl) (by rw [hs]; simp)
 rw [hs] at this ⊢
 simp only [h1, h2, h3, List.map_toArray, List.map_cons, List.map_nil]
 exact this.trans (by simp [Value.cells, bvals])
theorem zho {ops : Array Oper} {o : Oper} {a : Act} {w : World} {K : Act -> World -> Prop} {Q : Exit -> Act -> World -> Prop} {E : Prop} (hgd : o.guard = none) (s x : Operand)
  (ho : o.op = .call { callee := .builtin .append, args := #[s, x], argTypes := #[22, 22] })
  (N : Nat) (v : Value) (l : V.Bs) (W0 : World) (hs : a.eval s = v) (hb : Buf N v l W0 w) (b cap : Nat) (m : V.Bs) (hx : a.eval x = .slice (some ⟨b, 0, none⟩) m.length cap) (hc : ∀ j u, (bvals m)[j]? = some u -> w.cell? ⟨b, j, none⟩ = some u) (hl : l.length + m.length ≤ 10000000)
  (h : ∀ v' w', Buf N v' (l ++ m) W0 w' -> K (a.put o.dst v') w') : if Region.wanted o (yielded ops a.tmps) = true then Oper.wp Tryz.prog o a w K Q else E := by
 rw [if_pos (by simp [Region.wanted, hgd])]
 obtain ⟨i, hi, hz, h1, h2⟩ := za3
 obtain ⟨v', w', hr, ho', hg, _⟩ := run_append_ownF (P := Tryz.prog) w N 22 o.type 5 i (.int .u8 0) 1 1 Tryz.underlying22 hi hz h1 h2 rfl (by decide) v l.length (bvals l) hb.1 ⟨b, 0, none⟩ m.length cap (bvals m) (by rw [zjx]; omega) (by
   intro j u hj
   have := hc j u hj
   rw [Addr.add_mid, Nat.zero_add]
   exact this) (by
   intro u hu
   unfold bvals at hu
   obtain ⟨c, _, rfl⟩ := List.mem_map.1 hu
   rfl) (by unfold maxLen; omega) (by omega) hb.2.2
 unfold Oper.wp execOp
 simp only [ho, resolve, invoke, builtin, Sem.run_bind, Sem.run_pure, Result.andThen_ok, List.map_toArray, List.map_cons, List.map_nil, hs, hx, hr]
 refine h v' w' ?_
 have := hb.grown ho' hg
 rw [zha] at this
 unfold Buf
 rw [List.length_append]
 exact this
theorem kv (m : V.Bs) (w : World) : ∀ j u, (bvals m)[j]? = some u -> (w.alloc (.cells (bvals m).toArray 5)).cell? ⟨w.heap.size, j, none⟩ = some u := fun j u h => by
 rw [World.cell?_alloc_new]
 simpa using h
end Go.Proofs.YtnhfaincdabdkaaGreatDoor
