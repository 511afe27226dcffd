/-
  Lemmas for the law.
-/
import Derived.Test.YtnhfaincdabdkaaGreatDoorC36x15
import Derived.Test.YtnhfaincdabdkaaGreatDoorC36x14
import Derived.Test.YtnhfaincdabdkaaGreatDoorC36x13
import Derived.Test.YtnhfaincdabdkaaGreatDoorC36x02
import Derived.Test.YtnhfaincdabdkaaGreatDoorC36x03
import Derived.Test.YtnhfaincdabdkaaGreatDoorC36x10
import Derived.Test.YtnhfaincdabdkaaGreatDoorC36x16
import Derived.Test.YtnhfaincdabdkaaGreatDoorC36x07
import Derived.StillTailTactics
import Derived.OrdersHeld
import Derived.Lib.BufSteps
import Derived.OwnWalk
import Derived.BigRegion
import Derived.Deep.MidRow
import Derived.Great.BuildSlice
import Derived.Deep.Upon
set_option linter.all false
set_option maxRecDepth 100000
set_option maxHeartbeats 3200000
namespace Go.Proofs.YtnhfaincdabdkaaGreatDoor
open Go.RowKit
structure ThreeInv (w : World) (n : Int) (k : Nat) (wr : World) : Prop where
 below : Below w.heap.size w wr
 size : w.heap.size + 2 < wr.heap.size
 tape : Tape wr (w.heap.size + 1) k
 out : ∃ xs : Nat -> V.Bs, (∀ j, j < 3 -> wr.cell? ⟨w.heap.size + 2, j, none⟩ = some (.string ⟨(xs j).toArray⟩)) /\ ∀ j, j < k -> V.valid n (xs j) = true
 free : ∀ j, wr.frozen? ⟨w.heap.size + 2, j, none⟩ = false
 res : ∀ j, j < 3 -> wr.cell? ⟨w.heap.size, j, none⟩ = some (.string ⟨#[]⟩)
 resfree : ∀ j, wr.frozen? ⟨w.heap.size, j, none⟩ = false
theorem ThreeInv.later {w W W1 : World} {n : Int} {k : Nat} (h : ThreeInv w n k W) (hb : Below W.heap.size W W1) : ThreeInv w n k W1 := by
 obtain ⟨h1, h2, h3, ⟨xs, h4, h5⟩, h6, h7, h8⟩ := h
 have c := fun o v (g : W.cell? ⟨w.heap.size + 2, o, none⟩ = some v) => (hb.cell (p := ⟨w.heap.size + 2, o, none⟩) h2).trans g
 exact ⟨h1.trans (hb.mono h1.size), Nat.lt_of_lt_of_le h2 hb.size, h3.below hb, ⟨xs, fun j hj => c j _ (h4 j hj), h5⟩, fun j => (hb.frozen (p := ⟨w.heap.size + 2, j, none⟩) h2).trans (h6 j),
   fun j hj => (hb.cell (p := ⟨w.heap.size, j, none⟩) (by simp; omega)).trans (h7 j hj), fun j => (hb.frozen (p := ⟨w.heap.size, j, none⟩) (by simp; omega)).trans (h8 j)⟩
theorem zxn {P : Prop} (h : P := by
 have h1 : ¬ x < y := fun g => by rw [UInt8.lt_iff_toNat_lt] at h g; omega
 have h2 : (x == y) = false := by
  rw [zu2]; intro g; subst g; simp at h
 rw [e, h2]; simp [h1]) : P := h
theorem vi : ∀ a b : V.Bs, Op.bytesLess a b = decide (V.cb a b < 0)
 | [], [] => rfl
 | [], _ :: _ => rfl
 | _ :: _, [] => rfl
 | x :: a, y :: b => by
  unfold Op.bytesLess
  rcases V.zhz x y a b with ⟨h, e⟩ | ⟨h, e⟩ | ⟨h, e⟩
  ·rw [e]; simp [h]
  ·subst h
   have : ¬ x < x := by simp
   rw [e, ← vi a b]; simp [this]
  ·exact zxn
open Go.RowKit
theorem zw5 {P : Prop} (h : P := by
 go_enter Tryz.func65, Tryz.ntmps65
 go_wp2
 go_ret
 exact ⟨rfl, rfl⟩) : P := h
theorem zjh (n : Int) (w : World) :
  Calls Tryz.prog 65 #[.int .i64 n] w fun e w' => e = .returned (.string ⟨(V.qn n).toArray⟩) /\ w' = w := by
 by_cases h1 : n = 1
 ·subst h1
  exact zw5
 by_cases h2 : n = 2
 ·subst h2
  exact zw5
 by_cases h3 : n = 3
 ·subst h3
  exact zw5
 have HN : Hid (V.qn n = []) := zuy (by unfold V.qn; rw [if_neg h1, if_neg h2, if_neg h3])
 go_enter Tryz.func65, Tryz.ntmps65
 go_wp2
 go_ret
 exact ⟨by rw [HN.out]; rfl, rfl⟩
theorem zpd (s : ByteArray) (w : World) :
  Calls Tryz.prog 150 #[.string s] w fun e w' => e = .returned (.int .i64 (V.kf s.data.toList)) /\ Below w.heap.size w w' := by
 have HB := zuy ((zu1 w.heap.size w).alloc (zu0 _) (.cells #[.int .i64 1, .int .i64 2, .int .i64 3] 3))
 have HC : Hid (∀ j, j < 3 -> (w.alloc (.cells #[.int .i64 1, .int .i64 2, .int .i64 3] 3)).cell? ⟨w.heap.size, j, none⟩ = some (.int .i64 ((j + 1 : Nat) : Int))) := zuy (fun j hj => by
   rw [World.cell?_alloc_new]
   have : j = 0 ∨ j = 1 ∨ j = 2 := by omega
   rcases this with rfl | rfl | rfl <;> rfl)
 go_enter Tryz.func150, Tryz.ntmps150
 go_wp2_with fail
 generalize w.alloc (.cells #[.int .i64 1, .int .i64 2, .int .i64 3] 3) = w0 at *
 go_loopw [7] (fun i W => ∃ k : Nat, k ≤ 3 /\ i = .int .i64 k /\ W = w0 /\ ∀ j : Nat, 1 ≤ j -> j < k + 1 -> ¬ s.data.toList = V.qn j) (fun i _ => 3 - (intOf i).toNat)
 case atStart => exact ⟨0, by omega, rfl, rfl, fun j h1 h2 => by omega⟩
 case round =>
  obtain ⟨k, hk, rfl, rfl, hz⟩ := hrel
  have HZ := zuy hz
  clear hz
  by_cases hlt : k < 3
  ·have hcell := HC.out k hlt
   obtain ⟨n, hn⟩ : ∃ n : Nat, n = k + 1 := ⟨_, rfl⟩
   rw [← hn] at hcell
   have HNK := zuy hn
   clear hn
   have i1 : (0 : Int) ≤ (k : Int) := by omega
   have i2 : (k : Int) < 3 := by omega
   go_wp2_with fail
   refine (zjh _ _).mono ?_
   rintro e w' ⟨rfl, rfl⟩
   by_cases he : s.data.toList = V.qn n
   ·have HE := zuy he
    have hs : s = ⟨(V.qn n).toArray⟩ := kq (by rw [zad]; exact he)
    have HR : Hid (V.kf s.data.toList = n) := zuy (V.zti (by have := HNK.out; omega) (by have := HNK.out; omega) he)
    rw [← hs]
    clear he hs
    go_wp2
    go_ret
    exact ⟨zn HR.out.symm, HB.out⟩
   ·have hne : ((⟨(V.qn n).toArray⟩ : ByteArray).toList == s.toList) = false := by
     rw [Lib.toList_data, Lib.toList_data, zad]
     exact zu2.2 fun e => he e.symm
    have HR : Hid (∀ j : Nat, 1 ≤ j -> j < n + 1 -> ¬ s.data.toList = V.qn j) := zuy fun j h1 h2 => by
     by_cases e : j = n
     ·subst e; exact he
     ·exact HZ.out j h1 (by have := HNK.out; omega)
    generalize (⟨(V.qn n).toArray⟩ : ByteArray) = x at *
    clear he
    go_wp2
    go_round
    case rel => exact ⟨k + 1, by omega, by go_num, (by first | exact trivial | rfl), by rw [← HNK.out]; exact HR.out⟩
    case measure => simp [intOf]; omega
  ·have HR : Hid (V.kf s.data.toList = 0) := zuy (V.zug fun j h1 h2 => HZ.out j h1 (by omega))
   go_wp2
   go_ret
   exact ⟨zn HR.out.symm, HB.out⟩
theorem zkw (s : ByteArray) (w : World) : Calls Tryz.prog 148 #[.string s] w fun e w' => e = .returned (.bool false) /\ w' = w := by
 go_enter Tryz.func148, Tryz.ntmps148
 go_wp2
 go_ret
 first | exact ⟨rfl, rfl⟩ | simp
theorem zq6 (s t : ByteArray) (w : World) : Calls Tryz.prog 114 #[.string s, .string t] w fun e w' => e = .returned (.int .i64 (Lib.compareBytes s.data.toList t.data.toList)) /\ w' = w := by
 have h1 : Op.bytesLess s.toList t.toList = decide (Lib.compareBytes s.data.toList t.data.toList < 0) := by rw [Lib.toList_data, Lib.toList_data]; exact vi _ _
 have h2 : Op.bytesLess t.toList s.toList = decide (0 < Lib.compareBytes s.data.toList t.data.toList) := by
  rw [Lib.toList_data, Lib.toList_data, vi, V.kd s.data.toList t.data.toList]
  exact decide_eq_decide.2 (by show - V.cb s.data.toList t.data.toList < 0 ↔ 0 < V.cb s.data.toList t.data.toList; omega)
 have h3 : (s.toList == t.toList) = decide (Lib.compareBytes s.data.toList t.data.toList = 0) := by
  rw [Lib.toList_data, Lib.toList_data, Bool.eq_iff_iff, beq_iff_eq, decide_eq_true_eq]
  exact ⟨fun e => by rw [e]; exact V.yp _, fun e => V.zj2 e⟩
 have HR : Hid (Lib.compareBytes s.data.toList t.data.toList = -1 ∨ Lib.compareBytes s.data.toList t.data.toList = 0 ∨ Lib.compareBytes s.data.toList t.data.toList = 1) := zuy (V.zkj _ _)
 generalize Lib.compareBytes s.data.toList t.data.toList = c at *
 go_enter Tryz.func114, Tryz.ntmps114
 go_wp2_with fail
 refine (zkw s _).mono ?_
 rintro e w' ⟨rfl, rfl⟩
 go_wp2_with fail
 refine (zkw t _).mono ?_
 rintro e w' ⟨rfl, rfl⟩
 rcases HR.out with rfl | rfl | rfl
 all_goals
  simp only [show decide ((-1 : Int) < 0) = true from rfl, show decide ((0 : Int) < -1) = false from rfl, show decide ((0 : Int) < 0) = false from rfl, show decide ((1 : Int) < 0) = false from rfl, show decide ((0 : Int) < 1) = true from rfl, show decide ((-1 : Int) = 0) = false from rfl, show decide ((0 : Int) = 0) = true from rfl, show decide ((1 : Int) = 0) = false from rfl] at h1 h2 h3
  clear HR
  go_wp2
  go_ret
  first | exact ⟨rfl, rfl⟩ | simp
theorem zae (c : UInt8) (w : World) : Calls Tryz.prog 130 #[.int .u8 c.toNat] w fun e w' => e = .returned (.bool (V.jq c)) /\ w' = w := by
 obtain ⟨n, hn⟩ : ∃ n : Int, n = (c.toNat : Int) := ⟨_, rfl⟩
 have HP : Hid (V.jq c = (decide (33 ≤ n) && (decide (n ≤ 125) && (n != 37)))) := zuy (by
   have hb : (n != 37) = !decide (n = 37) := rfl
   rw [hb]
   unfold V.jq
   rw [decide_eq_decide.2 (show 33 ≤ c.toNat ↔ 33 ≤ n by omega), decide_eq_decide.2 (show c.toNat ≤ 125 ↔ n ≤ 125 by omega), decide_eq_decide.2 (show c.toNat = 37 ↔ n = 37 by omega)])
 rw [← hn]
 clear hn
 go_enter Tryz.func130, Tryz.ntmps130
 go_wp2
 all_goals go_ret
 all_goals exact ⟨zd (by rw [HP.out]; simp_all; try omega), rfl⟩
theorem zui {l : V.Bs} {k : Nat} (h : k < l.length) : ((l.take (k + 1)).map V.yi).sum = ((l.take k).map V.yi).sum + V.yi l[k] := by
 exact zyr
theorem zsh (l : V.Bs) (k : Nat) : ((l.take k).map V.yi).sum ≤ 3 * l.length := by
 have := V.sum_le (l.take k)
 rw [List.length_take] at this
 omega
theorem zx9 {P : Prop} (h : P := by
 clear hp HT
 go_wp2
 go_round
 case rel => exact ⟨k + 1, by omega, by go_num, by rw [HN.out]; go_num⟩
 case measure => simp [intOf]; omega) : P := h
theorem zg2 (s : ByteArray) (w : World) (hs : s.size ≤ 100000) : Calls Tryz.prog 106 #[.string s] w fun e w' => e = .returned (.int .i64 (V.zaa s.data.toList : Nat)) /\ w' = w := by
 go_enter Tryz.func106, Tryz.ntmps106
 go_wp2
 go_loop [3, 4] (fun nv iv => ∃ k : Nat, k ≤ s.size /\ iv = .int .i64 k /\ nv = .int .i64 (((s.data.toList.take k).map V.yi).sum : Nat)) (fun _ iv => s.size - (intOf iv).toNat)
 case atStart => exact ⟨0, Nat.zero_le _, rfl, rfl⟩
 case round =>
  obtain ⟨k, hk, rfl, rfl⟩ := hrel
  have hl := zf s
  have hle := zsh s.data.toList k
  rw [hl] at hle
  by_cases hlt : k < s.size
  ·have HT := zuy (zui (l := s.data.toList) (k := k) (by omega))
   have he : s.data.toList[k]'(by omega) = s[k] := by simp; rfl
   rw [he] at HT
   obtain ⟨q, hq⟩ : ∃ q, q = ((s.data.toList.take k).map V.yi).sum := ⟨_, rfl⟩
   rw [← hq] at HT hle ⊢
   clear he hl hq
   go_wp2_with fail
   refine (zae s[k] w).mono ?_
   rintro e w' ⟨rfl, rfl⟩
   rcases hp : V.jq s[k] with _ | _
   ·have HN : Hid (((s.data.toList.take (k + 1)).map V.yi).sum = q + 3) := zuy (by rw [HT.out]; unfold V.yi; rw [hp]; rfl)
    exact zx9
   ·have HN : Hid (((s.data.toList.take (k + 1)).map V.yi).sum = q + 1) := zuy (by rw [HT.out]; unfold V.yi; rw [hp]; rfl)
    exact zx9
  ·obtain rfl : k = s.size := by omega
   have ht : s.data.toList.take s.size = s.data.toList := List.take_of_length_le (by omega)
   rw [ht] at hle ⊢
   have HS : Hid (V.zaa s.data.toList = max ((s.data.toList.map V.yi).sum) 1) := zuy rfl
   obtain ⟨q, hq⟩ : ∃ q, q = (s.data.toList.map V.yi).sum := ⟨_, rfl⟩
   rw [← hq] at HS hle ⊢
   clear ht hl hq
   go_wp2
   go_ret
   exact ⟨by rw [HS.out, show ((max q 1 : Nat) : Int) = max (q : Int) 1 by omega]; rfl, rfl⟩
open Go.RowKit
def bvals (l : V.Bs) : List Value := l.map fun b => Value.int .u8 b.toNat
theorem zud (l m : V.Bs) : bvals l ++ Lib.strCells ⟨m.toArray⟩ = bvals (l ++ m) := by simp [bvals, Lib.strCells]
theorem zi4 (l m : V.Bs) : bvals l ++ bvals m = bvals (l ++ m) := by simp [bvals]
theorem zlz (l : V.Bs) : (bvals l).length = l.length := by simp [bvals]
theorem zyq {P : Prop} (h : P := by
 obtain ⟨i, hi, hzz⟩ := Option.map_eq_some_iff.1 h
 simp only [Prod.mk.injEq] at hzz
 exact ⟨i, hi, hzz.1, hzz.2.1, hzz.2.2⟩) : P := h
theorem zby : ∃ i, Tryz.prog.info? 5 = some i /\ i.zero = some (.int .u8 0) /\ i.size = 1 /\ i.bytes = 1 := by
 have h : (Tryz.prog.info? 5).map (fun i => (i.zero, i.size, i.bytes)) = some (some (.int .u8 0), 1, 1) := by kernel_rfl
 exact zyq
def Buf (N : Nat) (v : Value) (l : V.Bs) (W0 w : World) : Prop := Lib.OwnBuf N 5 v l.length (bvals l) W0 w
theorem Buf.nil {N : Nat} {W0 w : World} (h : Below N W0 w) (hN : N ≤ w.heap.size) : Buf N (.slice none 0 0) [] W0 w := ⟨World.ownsRowF_nil _ _ _ _, h, hN⟩
theorem Buf.below {N : Nat} {v : Value} {l : V.Bs} {W0 w w' : World} (h : Buf N v l W0 w) (hb : Below w.heap.size w w') : Buf N v l W0 w' :=
 ⟨h.1.kept (row := none) ⟨hb.os, hb.tape, hb.output, hb.size, fun k hk _ => hb.block k hk⟩ (by cases hv : v.ownBlock <;> simp), h.2.1.trans (hb.mono h.2.2), Nat.le_trans h.2.2 hb.size⟩
theorem Buf.slice {N : Nat} {v : Value} {l : V.Bs} {W0 w : World} (h : Buf N v l W0 w) : ∃ a cap, v = .slice a l.length cap := by
 rcases h.1.2 with ⟨rfl, hn⟩ | ⟨g, cap, cur, fz, rfl, _⟩
 ·exact ⟨none, 0, by rw [hn]⟩
 ·exact ⟨_, cap, rfl⟩
theorem zda {ops : Array Oper} {rest : List Oper} {o : Oper} {a : Act} {w : World} {Q : Exit -> Act -> World -> Prop} (hgd : o.guard = none) (s x : Operand)
  (ho : o.op = .call { callee := .builtin .append, args := #[s, x], argTypes := #[22, 22] })
  (N : Nat) (v : Value) (l : V.Bs) (W0 : World) (hs : a.eval s = v) (hb : Buf N v l W0 w) (b cap : Nat) (m : V.Bs) (hx : a.eval x = .slice (some ⟨b, 0, none⟩) m.length cap) (hc : ∀ j u, (bvals m)[j]? = some u -> w.cell? ⟨b, j, none⟩ = some u) (hl : l.length + m.length ≤ 10000000)
  (h : ∀ v' w', Buf N v' (l ++ m) W0 w' -> wpList Tryz.prog ops Q rest (a.put o.dst v') w') : wpList Tryz.prog ops Q (o :: rest) a w := by
 obtain ⟨i, hi, hz, h1, h2⟩ := zby
 refine wpList_append_ownF w hgd s x 22 ho N 5 i (.int .u8 0) 1 1 Tryz.underlying22 hi hz h1 h2 rfl (by decide) v l.length (bvals l) hs hb.1 ⟨b, 0, none⟩ m.length cap (bvals m) hx (by rw [zlz]; omega) ?_ ?_ (by unfold maxLen; omega) (by omega) hb.2.2 ?_
 ·intro j u hj
  have := hc j u hj
  rw [Addr.add_mid, Nat.zero_add]
  exact this
 ·intro u hu
  unfold bvals at hu
  obtain ⟨c, _, rfl⟩ := List.mem_map.1 hu
  rfl
 ·intro v' w' ho' hg _
  refine h v' w' ?_
  have := hb.grown ho' hg
  rw [zi4] at this
  unfold Buf
  rw [List.length_append]
  exact this
theorem zsm {ops : Array Oper} {rest : List Oper} {o : Oper} {a : Act} {w : World} {Q : Exit -> Act -> World -> Prop} (hgd : o.guard = none) (s x : Operand)
  (ho : o.op = .call { callee := .builtin .append, args := #[s, x], argTypes := #[22, 9] })
  (N : Nat) (v : Value) (l : V.Bs) (W0 : World) (hs : a.eval s = v) (hb : Buf N v l W0 w) (m : V.Bs) (hx : a.eval x = .string ⟨m.toArray⟩) (hl : l.length + m.length ≤ 10000000)
  (h : ∀ v' w', Buf N v' (l ++ m) W0 w' -> wpList Tryz.prog ops Q rest (a.put o.dst v') w') : wpList Tryz.prog ops Q (o :: rest) a w := by
 obtain ⟨i, hi, hz, h1, h2⟩ := zby
 have hsz : (ByteArray.mk m.toArray).size = m.length := by simp [ByteArray.size]
 refine Lib.wpList_append_text hgd s x 22 9 ho N 5 i Tryz.underlying22 Tryz.underlying9 hi hz h1 h2 v l.length (bvals l) hs W0 hb ⟨m.toArray⟩ hx (by rw [hsz]; omega) ?_
 intro v' w' ho'
 refine h v' w' ?_
 rw [zud, hsz] at ho'
 unfold Buf
 rw [List.length_append]
 exact ho'
theorem zs9 {ops : Array Oper} {rest : List Oper} {o : Oper} {a : Act} {w : World} {Q : Exit -> Act -> World -> Prop} (hgd : o.guard = none) (c : Operand) (ho : o.op = .makeSlice 22 (.const (.int .i64 0)) c)
  (N n : Nat) (W0 : World) (hb : Below N W0 w) (hN : N ≤ w.heap.size) (hc : a.eval c = .int .i64 n) (hn : n ≤ 10000000)
  (h : ∀ w', Buf N (.slice (some ⟨w.heap.size, 0, none⟩) 0 n) [] W0 w' -> wpList Tryz.prog ops Q rest (a.put o.dst (.slice (some ⟨w.heap.size, 0, none⟩) 0 n)) w') : wpList Tryz.prog ops Q (o :: rest) a w := by
 obtain ⟨i, hi, hz, h1, h2⟩ := zby
 refine wpList_make_own w hgd _ c 22 ho N 5 i (.int .u8 0) 1 Tryz.underlying22 hi hz h1 .i64 .i64 n n rfl hc rfl (by rw [h2]; omega) (by unfold maxLen; omega) hN ?_
 intro w' ho' hg
 exact h w' ⟨World.ownsRowF_of ho', hb.grown hg hN (fun k e => by cases e), Nat.le_trans hN hg.size⟩
theorem zi3 {N : Nat} {v : Value} {l : V.Bs} {W0 w : World} (h : Buf N v l W0 w) (h0 : 0 < l.length) : (convert 22 9 v).run Tryz.prog w = .ok (.string ⟨l.toArray⟩) w := by
 obtain ⟨ho, _, _⟩ := h
 have hcs := fun (g : Nat) hg => ho.cells (g := g) hg
 rcases ho.2 with ⟨_, e⟩ | ⟨g, cap, cur, fz, rfl, _⟩
 ·omega
 ·have hc := hcs g rfl
  have r := run_convert_bytes_arg (P := Tryz.prog) w 22 5 Tryz.underlying22 Tryz.underlying5 g 0 l.length cap (l.map fun b => (b.toNat : Int)) (by simp) (fun i hi => by
    have hu : (bvals l)[i]? = some (.int .u8 ((l.map fun b => (b.toNat : Int)).getD i 0)) := by
      unfold bvals
      rw [List.getElem?_map, List.getElem?_eq_getElem (by omega), List.getD_eq_getElem?_getD, List.getElem?_map, List.getElem?_eq_getElem (by omega)]
      rfl
    have := hc i _ hu
    rw [show (⟨g, 0, none⟩ : Addr).add i = ⟨g, 0 + i, none⟩ by unfold Addr.add; split <;> simp_all] at this
    exact this) 9 Tryz.underlying9
  rw [r]
  congr 2
  apply kq
  rw [strOfNums_data, List.map_map]
  simp only [zad]
  conv => rhs; rw [← List.map_id l]
  apply List.map_congr_left
  intro b _
  simp
theorem zb6 {o : Oper} {ev : Operand -> Value} {w : World} {x y : Operand} {s : ByteArray} {k : IntKind} {i : Int} {b : UInt8} (ho : o.op = .index 9 x y) (hx : ev x = .string s) (hy : ev y = .int k i) (h0 : 0 ≤ i) (hb : s.data.toList[i.toNat]? = some b) :
  (execOp ev o).run Tryz.prog w = .ok (.value (.int .u8 b.toNat)) w := by
 have h1 := (List.getElem?_eq_some_iff.1 hb).1
 have h2 : i.toNat < s.size := by rw [Array.length_toList] at h1; exact h1
 have he : s[i.toNat] = b := by
  rw [← (List.getElem?_eq_some_iff.1 hb).2]
  rfl
 have hr := run_index_string (P := Tryz.prog) w 9 s k i Tryz.underlying9
 rw [dif_pos ⟨h0, by omega⟩, he] at hr
 unfold execOp
 simp only [ho, hx, hy, Sem.run_bind, hr, Result.andThen_ok, Sem.run_pure]
theorem ex_shr4 {o : Oper} {ev : Operand -> Value} {w : World} {x : Operand} {c : UInt8} (ho : o.op = .binOp .shr 5 x (.const (.int .u64 4)) 51) (hc : ev (.const (.int .u64 4)) = .int .u64 4) (hx : ev x = .int .u8 c.toNat) : (execOp ev o).run Tryz.prog w = .ok (.value (.int .u8 ((c.toNat / 16 : Nat) : Int))) w := by
 unfold execOp
 simp only [ho, hx, hc]
 go_simp
theorem and15 : ∀ n : Fin 256, bits BinOp.and .u8 (n.val : Int) 15 = (n.val : Int) % 16 := by decide +kernel
theorem ex_and15 {o : Oper} {ev : Operand -> Value} {w : World} {x : Operand} {c : UInt8} (ho : o.op = .binOp .and 5 x (.const (.int .u8 15)) 5) (hc : ev (.const (.int .u8 15)) = .int .u8 15) (hx : ev x = .int .u8 c.toNat) : (execOp ev o).run Tryz.prog w = .ok (.value (.int .u8 ((c.toNat % 16 : Nat) : Int))) w := by
 unfold execOp
 simp only [ho, hx, hc]
 go_simp
 exact and15 ⟨c.toNat, c.toNat_lt⟩
theorem zna {ops : Array Oper} {o : Oper} {a : Act} {w : World} {K : Act -> World -> Prop} {Q : Exit -> Act -> World -> Prop} {E : Prop} (hgd : o.guard = none) (e1 e2 e3 : Operand) (ho : o.op = .buildSlice 22 3 #[(0, e1), (1, e2), (2, e3)])
  (b1 b2 b3 : UInt8) (h1 : a.eval e1 = .int .u8 b1.toNat) (h2 : a.eval e2 = .int .u8 b2.toNat) (h3 : a.eval e3 = .int .u8 b3.toNat)
  (h : K (a.put o.dst (.slice (some ⟨w.heap.size, 0, none⟩) 3 3)) (w.alloc (.cells (bvals [b1, b2, b3]).toArray 5))) : if Region.wanted o (yielded ops a.tmps) = true then Oper.wp Tryz.prog o a w K Q else E := by
 rw [if_pos (by simp [Region.wanted, hgd])]
 obtain ⟨i, hi, hz, hs, hb⟩ := zby
 refine wp_buildSlice _ 5 3 _ ho (bvals [b1, b2, b3]).toArray i _ Tryz.underlying22 hi hz (by rw [hs]; decide) (by rw [hs]; decide) ?_ h
 have := Great.fill_whole (s := 1) (by decide) [Value.int .u8 b1.toNat, Value.int .u8 b2.toNat, Value.int .u8 b3.toNat] ((Array.range (3 * i.size)).map ((Value.int .u8 0).cells[· % (Value.int .u8 0).cells.size]!)) (fun v hv => by
   rcases List.mem_cons.1 hv with rfl | hv
   · rfl
   · rcases List.mem_cons.1 hv with rfl | hv
     · rfl
     · rw [List.mem_singleton.1 hv]; rfl) (by rw [hs]; simp)
 rw [hs] at this ⊢
 simp only [h1, h2, h3, List.map_toArray, List.map_cons, List.map_nil]
 exact this.trans (by simp [Value.cells, bvals])
theorem zri {ops : Array Oper} {o : Oper} {a : Act} {w : World} {K : Act -> World -> Prop} {Q : Exit -> Act -> World -> Prop} {E : Prop} (hgd : o.guard = none) (s x : Operand)
  (ho : o.op = .call { callee := .builtin .append, args := #[s, x], argTypes := #[22, 22] })
  (N : Nat) (v : Value) (l : V.Bs) (W0 : World) (hs : a.eval s = v) (hb : Buf N v l W0 w) (b cap : Nat) (m : V.Bs) (hx : a.eval x = .slice (some ⟨b, 0, none⟩) m.length cap) (hc : ∀ j u, (bvals m)[j]? = some u -> w.cell? ⟨b, j, none⟩ = some u) (hl : l.length + m.length ≤ 10000000)
  (h : ∀ v' w', Buf N v' (l ++ m) W0 w' -> K (a.put o.dst v') w') : if Region.wanted o (yielded ops a.tmps) = true then Oper.wp Tryz.prog o a w K Q else E := by
 rw [if_pos (by simp [Region.wanted, hgd])]
 obtain ⟨i, hi, hz, h1, h2⟩ := zby
 obtain ⟨v', w', hr, ho', hg, _⟩ := run_append_ownF (P := Tryz.prog) w N 22 o.type 5 i (.int .u8 0) 1 1 Tryz.underlying22 hi hz h1 h2 rfl (by decide) v l.length (bvals l) hb.1 ⟨b, 0, none⟩ m.length cap (bvals m) (by rw [zlz]; omega) (by
   intro j u hj
   have := hc j u hj
   rw [Addr.add_mid, Nat.zero_add]
   exact this) (by
   intro u hu
   unfold bvals at hu
   obtain ⟨c, _, rfl⟩ := List.mem_map.1 hu
   rfl) (by unfold maxLen; omega) (by omega) hb.2.2
 unfold Oper.wp execOp
 simp only [ho, resolve, invoke, builtin, Sem.run_bind, Sem.run_pure, Result.andThen_ok, List.map_toArray, List.map_cons, List.map_nil, hs, hx, hr]
 refine h v' w' ?_
 have := hb.grown ho' hg
 rw [zi4] at this
 unfold Buf
 rw [List.length_append]
 exact this
theorem zau (m : V.Bs) (w : World) : ∀ j u, (bvals m)[j]? = some u -> (w.alloc (.cells (bvals m).toArray 5)).cell? ⟨w.heap.size, j, none⟩ = some u := fun j u h => by
 rw [World.cell?_alloc_new]
 simpa using h
theorem zvb {P : Prop} (h : P := by
 have f4 : ¬ (s[k].toNat : Int) = 46 := by omega
 have f5 : ((s[k].toNat : Int) == 46) = false := by rw [zu2]; omega
 have f6 : ¬ (s[k].toNat : Int) = 95 := by omega
 have f7 : ((s[k].toNat : Int) == 95) = false := by rw [zu2]; omega
 have f8 : ¬ (s[k].toNat : Int) = 45 := by omega
 have f9 : ((s[k].toNat : Int) == 45) = false := by rw [zu2]; omega
 clear hc HNO HST
 go_wp2
 go_ret
 exact ⟨zd HP.out.symm, rfl⟩) : P := h
theorem zvx {P : Prop} (h : P := by
 have f4 : ¬ (s[k].toNat : Int) = 46 := by omega
 have f5 : ((s[k].toNat : Int) == 46) = false := by rw [zu2]; omega
 have f6 : ¬ (s[k].toNat : Int) = 95 := by omega
 have f7 : ((s[k].toNat : Int) == 95) = false := by rw [zu2]; omega
 have f8 : ¬ (s[k].toNat : Int) = 45 := by omega
 have f9 : ((s[k].toNat : Int) == 45) = false := by rw [zu2]; omega
 clear hc HNO HST
 go_wp2
 go_round
 case rel => exact ⟨k + 1, by omega, by go_num, HY.out⟩
 case measure => simp [intOf]; omega) : P := h
theorem zv0 {P : Prop} (h : P := by
 clear hc HNO HST
 go_wp2
 go_round
 case rel => exact ⟨k + 1, by omega, by go_num, HY.out⟩
 case measure => simp [intOf]; omega) : P := h
theorem zwg {P : Prop} (h : P := by
 clear hc HNO HST
 go_wp2
 go_ret
 exact ⟨zd HP.out.symm, rfl⟩) : P := h
theorem zo3 (s : ByteArray) (w : World) (hs : s.size ≤ maxLen) : Calls Tryz.prog 69 #[.string s] w fun e w' => e = .returned (.bool (V.zay s.data.toList)) /\ w' = w := by
 have hl := zf s
 unfold maxLen at hs
 by_cases h0 : s.size = 0
 ·have hs0 : s = ⟨#[]⟩ := kq (by rw [List.length_eq_zero_iff.1 (by omega : s.data.toList.length = 0)])
  subst hs0
  go_enter Tryz.func69, Tryz.ntmps69
  go_wp2
  go_ret
  exact ⟨rfl, rfl⟩
 have q0 : ¬ (s.size : Int) < 1 := by omega
 have hne : s.data.toList ≠ [] := fun e => by rw [e] at hl; exact h0 hl.symm
 have hse : s.toList.isEmpty = false := by
  rw [Lib.toList_data]
  cases hq : s.data.toList with
  | nil => exact absurd hq hne
  | cons c r => rfl
 have hse2 : (s.data.toList == []) = false := by rw [zu2]; exact hne
 clear hne
 by_cases h64 : 64 < s.size
 ·have HP : Hid (V.zay s.data.toList = false) := zuy (decide_eq_false fun hp => by have := hp.2.1; omega)
  have q1 : (64 : Int) < (s.size : Int) := by omega
  clear hl
  go_enter Tryz.func69, Tryz.ntmps69
  go_wp2
  go_ret
  exact ⟨zd HP.out.symm, rfl⟩
 have q1 : ¬ (64 : Int) < (s.size : Int) := by omega
 have HL := zuy hl
 clear hl
 go_enter Tryz.func69, Tryz.ntmps69
 go_wp2
 go_loop [3] (fun iv => ∃ k : Nat, k ≤ s.size /\ iv = .int .i64 k /\ ∀ j (h : j < s.data.toList.length), j < k -> V.nmAt j s.data.toList[j] = true) (fun iv => s.size - (intOf iv).toNat)
 case atStart => exact ⟨0, Nat.zero_le _, rfl, fun j _ h => absurd h (Nat.not_lt_zero _)⟩
 case round =>
  obtain ⟨k, hk, rfl, hat⟩ := hrel
  have HAT := zuy hat
  clear hat
  by_cases hlt : k < s.size
  ·have he : s.data.toList[k]'(by have := HL.out; omega) = s[k] := by simp; rfl
   have HNO := zuy (V.name_no (s := s.data.toList) (k := k) (by have := HL.out; omega))
   have HST : Hid (V.nmAt k s[k] = true -> ∀ j (h : j < s.data.toList.length), j < k + 1 -> V.nmAt j s.data.toList[j] = true) := zuy (fun hy j h hj => by
     by_cases hjk : j < k
     · exact HAT.out j h hjk
     · obtain rfl : j = k := by omega
       rw [he]; exact hy)
   rw [he] at HNO
   clear he HAT
   have i1 : (0 : Int) ≤ (k : Int) := by omega
   have i2 : (k : Int) < (s.size : Int) := by omega
   have wr1 : IntKind.i64.wrap ((k : Int) + 1) = (k : Int) + 1 := IntWalk.i64_in _ (by omega)
   have hcl : (s[k].toNat < 48 /\ s[k].toNat ≠ 45 /\ s[k].toNat ≠ 46) ∨ (s[k].toNat = 45) ∨ (s[k].toNat = 46) ∨ (48 ≤ s[k].toNat /\ s[k].toNat ≤ 57) ∨ (58 ≤ s[k].toNat /\ s[k].toNat < 97 /\ s[k].toNat ≠ 95) ∨ (s[k].toNat = 95) ∨ (97 ≤ s[k].toNat /\ s[k].toNat ≤ 122) ∨ (123 ≤ s[k].toNat) := by omega
   rcases hcl with hc | hc | hc | hc | hc | hc | hc | hc
   ·have HP := zuy (HNO.out (by simp [V.nmAt, V.nmA, V.nmP]; omega))
    by_cases hk0 : 0 < k
    ·have j0 : (0 : Int) < (k : Int) := by omega
     have f0 : ¬ (97 : Int) ≤ (s[k].toNat : Int) := by omega
     have f1 : (s[k].toNat : Int) ≤ 122 := by omega
     have f2 : ¬ (48 : Int) ≤ (s[k].toNat : Int) := by omega
     have f3 : (s[k].toNat : Int) ≤ 57 := by omega
     exact zvb
    ·have j0 : ¬ (0 : Int) < (k : Int) := by omega
     have f0 : ¬ (97 : Int) ≤ (s[k].toNat : Int) := by omega
     have f1 : (s[k].toNat : Int) ≤ 122 := by omega
     have f2 : ¬ (48 : Int) ≤ (s[k].toNat : Int) := by omega
     have f3 : (s[k].toNat : Int) ≤ 57 := by omega
     exact zvb
   ·by_cases hk0 : 0 < k
    ·have HY := zuy (HST.out (by simp [V.nmAt, V.nmP, hc, hk0]))
     have j0 : (0 : Int) < (k : Int) := by omega
     have f0 : ¬ (97 : Int) ≤ (s[k].toNat : Int) := by omega
     have f1 : (s[k].toNat : Int) ≤ 122 := by omega
     have f2 : ¬ (48 : Int) ≤ (s[k].toNat : Int) := by omega
     have f3 : (s[k].toNat : Int) ≤ 57 := by omega
     have f4 : ¬ (s[k].toNat : Int) = 46 := by omega
     have f5 : ((s[k].toNat : Int) == 46) = false := by rw [zu2]; omega
     have f6 : ¬ (s[k].toNat : Int) = 95 := by omega
     have f7 : ((s[k].toNat : Int) == 95) = false := by rw [zu2]; omega
     have f8 : (s[k].toNat : Int) = 45 := by omega
     exact zv0
    ·have HP := zuy (HNO.out (by simp [V.nmAt, V.nmA, hc, hk0]))
     have j0 : ¬ (0 : Int) < (k : Int) := by omega
     have f0 : ¬ (97 : Int) ≤ (s[k].toNat : Int) := by omega
     have f1 : (s[k].toNat : Int) ≤ 122 := by omega
     have f2 : ¬ (48 : Int) ≤ (s[k].toNat : Int) := by omega
     have f3 : (s[k].toNat : Int) ≤ 57 := by omega
     have f4 : ¬ (s[k].toNat : Int) = 46 := by omega
     have f5 : ((s[k].toNat : Int) == 46) = false := by rw [zu2]; omega
     have f6 : ¬ (s[k].toNat : Int) = 95 := by omega
     have f7 : ((s[k].toNat : Int) == 95) = false := by rw [zu2]; omega
     have f8 : (s[k].toNat : Int) = 45 := by omega
     exact zwg
   ·by_cases hk0 : 0 < k
    ·have HY := zuy (HST.out (by simp [V.nmAt, V.nmP, hc, hk0]))
     have j0 : (0 : Int) < (k : Int) := by omega
     have f0 : ¬ (97 : Int) ≤ (s[k].toNat : Int) := by omega
     have f1 : (s[k].toNat : Int) ≤ 122 := by omega
     have f2 : ¬ (48 : Int) ≤ (s[k].toNat : Int) := by omega
     have f3 : (s[k].toNat : Int) ≤ 57 := by omega
     have f4 : (s[k].toNat : Int) = 46 := by omega
     have f5 : ¬ (s[k].toNat : Int) = 95 := by omega
     have f6 : ((s[k].toNat : Int) == 95) = false := by rw [zu2]; omega
     have f7 : ¬ (s[k].toNat : Int) = 45 := by omega
     have f8 : ((s[k].toNat : Int) == 45) = false := by rw [zu2]; omega
     exact zv0
    ·have HP := zuy (HNO.out (by simp [V.nmAt, V.nmA, hc, hk0]))
     have j0 : ¬ (0 : Int) < (k : Int) := by omega
     have f0 : ¬ (97 : Int) ≤ (s[k].toNat : Int) := by omega
     have f1 : (s[k].toNat : Int) ≤ 122 := by omega
     have f2 : ¬ (48 : Int) ≤ (s[k].toNat : Int) := by omega
     have f3 : (s[k].toNat : Int) ≤ 57 := by omega
     have f4 : (s[k].toNat : Int) = 46 := by omega
     have f5 : ¬ (s[k].toNat : Int) = 95 := by omega
     have f6 : ((s[k].toNat : Int) == 95) = false := by rw [zu2]; omega
     have f7 : ¬ (s[k].toNat : Int) = 45 := by omega
     have f8 : ((s[k].toNat : Int) == 45) = false := by rw [zu2]; omega
     exact zwg
   ·have HY := zuy (HST.out (by simp [V.nmAt, V.nmA, hc]))
    have f0 : ¬ (97 : Int) ≤ (s[k].toNat : Int) := by omega
    have f1 : (s[k].toNat : Int) ≤ 122 := by omega
    have f2 : (48 : Int) ≤ (s[k].toNat : Int) := by omega
    have f3 : (s[k].toNat : Int) ≤ 57 := by omega
    exact zvx
   ·have HP := zuy (HNO.out (by simp [V.nmAt, V.nmA, V.nmP]; omega))
    by_cases hk0 : 0 < k
    ·have j0 : (0 : Int) < (k : Int) := by omega
     have f0 : ¬ (97 : Int) ≤ (s[k].toNat : Int) := by omega
     have f1 : (s[k].toNat : Int) ≤ 122 := by omega
     have f2 : (48 : Int) ≤ (s[k].toNat : Int) := by omega
     have f3 : ¬ (s[k].toNat : Int) ≤ 57 := by omega
     exact zvb
    ·have j0 : ¬ (0 : Int) < (k : Int) := by omega
     have f0 : ¬ (97 : Int) ≤ (s[k].toNat : Int) := by omega
     have f1 : (s[k].toNat : Int) ≤ 122 := by omega
     have f2 : (48 : Int) ≤ (s[k].toNat : Int) := by omega
     have f3 : ¬ (s[k].toNat : Int) ≤ 57 := by omega
     exact zvb
   ·by_cases hk0 : 0 < k
    ·have HY := zuy (HST.out (by simp [V.nmAt, V.nmP, hc, hk0]))
     have j0 : (0 : Int) < (k : Int) := by omega
     have f0 : ¬ (97 : Int) ≤ (s[k].toNat : Int) := by omega
     have f1 : (s[k].toNat : Int) ≤ 122 := by omega
     have f2 : (48 : Int) ≤ (s[k].toNat : Int) := by omega
     have f3 : ¬ (s[k].toNat : Int) ≤ 57 := by omega
     have f4 : ¬ (s[k].toNat : Int) = 46 := by omega
     have f5 : ((s[k].toNat : Int) == 46) = false := by rw [zu2]; omega
     have f6 : (s[k].toNat : Int) = 95 := by omega
     have f7 : ¬ (s[k].toNat : Int) = 45 := by omega
     have f8 : ((s[k].toNat : Int) == 45) = false := by rw [zu2]; omega
     exact zv0
    ·have HP := zuy (HNO.out (by simp [V.nmAt, V.nmA, hc, hk0]))
     have j0 : ¬ (0 : Int) < (k : Int) := by omega
     have f0 : ¬ (97 : Int) ≤ (s[k].toNat : Int) := by omega
     have f1 : (s[k].toNat : Int) ≤ 122 := by omega
     have f2 : (48 : Int) ≤ (s[k].toNat : Int) := by omega
     have f3 : ¬ (s[k].toNat : Int) ≤ 57 := by omega
     have f4 : ¬ (s[k].toNat : Int) = 46 := by omega
     have f5 : ((s[k].toNat : Int) == 46) = false := by rw [zu2]; omega
     have f6 : (s[k].toNat : Int) = 95 := by omega
     have f7 : ¬ (s[k].toNat : Int) = 45 := by omega
     have f8 : ((s[k].toNat : Int) == 45) = false := by rw [zu2]; omega
     exact zwg
   ·have HY := zuy (HST.out (by simp [V.nmAt, V.nmA, hc]))
    have f0 : (97 : Int) ≤ (s[k].toNat : Int) := by omega
    have f1 : (s[k].toNat : Int) ≤ 122 := by omega
    have f2 : (48 : Int) ≤ (s[k].toNat : Int) := by omega
    have f3 : ¬ (s[k].toNat : Int) ≤ 57 := by omega
    exact zvx
   ·have HP := zuy (HNO.out (by simp [V.nmAt, V.nmA, V.nmP]; omega))
    by_cases hk0 : 0 < k
    ·have j0 : (0 : Int) < (k : Int) := by omega
     have f0 : (97 : Int) ≤ (s[k].toNat : Int) := by omega
     have f1 : ¬ (s[k].toNat : Int) ≤ 122 := by omega
     have f2 : (48 : Int) ≤ (s[k].toNat : Int) := by omega
     have f3 : ¬ (s[k].toNat : Int) ≤ 57 := by omega
     exact zvb
    ·have j0 : ¬ (0 : Int) < (k : Int) := by omega
     have f0 : (97 : Int) ≤ (s[k].toNat : Int) := by omega
     have f1 : ¬ (s[k].toNat : Int) ≤ 122 := by omega
     have f2 : (48 : Int) ≤ (s[k].toNat : Int) := by omega
     have f3 : ¬ (s[k].toNat : Int) ≤ 57 := by omega
     exact zvb
  ·obtain rfl : k = s.size := by omega
   have HP : Hid (V.zay s.data.toList = true) := zuy (decide_eq_true ⟨by have := HL.out; omega, by have := HL.out; omega, fun j h => HAT.out j h (by have := HL.out; omega)⟩)
   go_wp2
   go_ret
   exact ⟨zd HP.out.symm, rfl⟩
end Go.Proofs.YtnhfaincdabdkaaGreatDoor
