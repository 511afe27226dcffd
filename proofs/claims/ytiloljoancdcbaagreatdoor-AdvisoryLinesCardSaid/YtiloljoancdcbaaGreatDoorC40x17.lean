/-
  Lemmas for the law.
-/
import Derived.Test.YtiloljoancdcbaaGreatDoorC40x02
import Derived.Test.YtiloljoancdcbaaGreatDoorC40x03
import Derived.Test.YtiloljoancdcbaaGreatDoorC40x06
import Derived.Test.YtiloljoancdcbaaGreatDoorC40x12
import Derived.Test.YtiloljoancdcbaaGreatDoorC40x16
import Derived.OrdersHeld
import Derived.Lib.BufSteps
import Derived.OwnWalk
import Derived.BigRegion
import Derived.Deep.MidRow
import Derived.Great.BuildSlice
import Derived.Deep.Upon
set_option linter.all false
set_option maxRecDepth 100000
set_option maxHeartbeats 800000
namespace Go.Proofs.YtiloljoancdcbaaGreatDoor
open Go.RowKit
theorem zze {P : Prop} (h : P := by
 go_enter Tryz.func26, Tryz.ntmps26
 go_wp2
 go_ret
 exact ⟨rfl, rfl⟩) : P := h
theorem zki (n : Int) (w : World) :
  Calls Tryz.prog 26 #[.int .i64 n] w fun e w' => e = .returned (.string ⟨(V.qb n).toArray⟩) /\ w' = w := by
 by_cases h1 : n = 1
 ·subst h1
  exact zze
 by_cases h2 : n = 2
 ·subst h2
  exact zze
 by_cases h3 : n = 3
 ·subst h3
  exact zze
 have HN : Hid (V.qb n = []) := zvq (by unfold V.qb; rw [if_neg h1, if_neg h2, if_neg h3])
 go_enter Tryz.func26, Tryz.ntmps26
 go_wp2
 go_ret
 exact ⟨by rw [HN.out]; rfl, rfl⟩
theorem zyv {P : Prop} (h : P := by
 go_enter Tryz.func30, Tryz.ntmps30
 go_wp2
 go_ret
 exact ⟨rfl, rfl⟩) : P := h
theorem zia (n : Int) (w : World) :
  Calls Tryz.prog 30 #[.int .i64 n] w fun e w' => e = .returned (.string ⟨(V.qb n).toArray⟩) /\ w' = w := by
 by_cases h1 : n = 1
 ·subst h1
  exact zyv
 by_cases h2 : n = 2
 ·subst h2
  exact zyv
 by_cases h3 : n = 3
 ·subst h3
  exact zyv
 have HN : Hid (V.qb n = []) := zvq (by unfold V.qb; rw [if_neg h1, if_neg h2, if_neg h3])
 go_enter Tryz.func30, Tryz.ntmps30
 go_wp2
 go_ret
 exact ⟨by rw [HN.out]; rfl, rfl⟩
theorem yr (s : ByteArray) (w : World) :
  Calls Tryz.prog 45 #[.string s] w fun e w' => e = .returned (.int .i64 (V.qh s.data.toList)) /\ w' = w := by
 go_enter Tryz.func45, Tryz.ntmps45
 go_wp2
 go_loop [3] (fun i => ∃ k : Nat, k ≤ 4 /\ 1 ≤ k /\ i = .int .i64 k /\ ∀ j : Nat, 1 ≤ j -> j < k -> ¬ s.data.toList = V.qb j) (fun i => 4 - (intOf i).toNat)
 case atStart => exact ⟨1, by omega, by omega, rfl, fun j h1 h2 => by omega⟩
 case round =>
  obtain ⟨k, hk, hk1, rfl, hz⟩ := hrel
  have HZ := zvq hz
  clear hz
  by_cases hlt : k ≤ 3
  ·go_wp2_with fail
   refine (zia _ _).mono ?_
   rintro e w' ⟨rfl, rfl⟩
   by_cases he : s.data.toList = V.qb k
   ·have HE := zvq he
    have hs : s = ⟨(V.qb k).toArray⟩ := jj (by rw [wl]; exact he)
    have HR : Hid (V.qh s.data.toList = k) := zvq (V.zmt hk1 hlt he)
    rw [← hs]
    clear he hs
    go_wp2
    go_ret
    exact ⟨zn HR.out.symm, rfl⟩
   ·have hne : ((⟨(V.qb k).toArray⟩ : ByteArray).toList == s.toList) = false := by
     rw [Lib.toList_data, Lib.toList_data, wl]
     exact zvu.2 fun e => he e.symm
    have HR : Hid (∀ j : Nat, 1 ≤ j -> j < k + 1 -> ¬ s.data.toList = V.qb j) := zvq fun j h1 h2 => by
     by_cases e : j = k
     ·subst e; exact he
     ·exact HZ.out j h1 (by omega)
    generalize (⟨(V.qb k).toArray⟩ : ByteArray) = x at *
    clear he
    go_wp2
    go_round
    case rel => exact ⟨k + 1, by omega, by omega, by go_num, HR.out⟩
    case measure => simp [intOf]; omega
  ·have HR : Hid (V.qh s.data.toList = 0) := zvq (V.znz fun j h1 h2 => HZ.out j h1 (by omega))
   go_wp2
   go_ret
   exact ⟨zn HR.out.symm, rfl⟩
theorem zqi (s : ByteArray) (w : World) :
  Calls Tryz.prog 98 #[.string s] w fun e w' => e = .returned (.int .i64 (V.qh s.data.toList)) /\ Below w.heap.size w w' := by
 have HB := zvq ((zvt w.heap.size w).alloc (zvs _) (.cells #[.int .i64 1, .int .i64 2, .int .i64 3] 3))
 have HC : Hid (∀ j, j < 3 -> (w.alloc (.cells #[.int .i64 1, .int .i64 2, .int .i64 3] 3)).cell? ⟨w.heap.size, j, none⟩ = some (.int .i64 ((j + 1 : Nat) : Int))) := zvq (fun j hj => by
   rw [World.cell?_alloc_new]
   have : j = 0 ∨ j = 1 ∨ j = 2 := by omega
   rcases this with rfl | rfl | rfl <;> rfl)
 go_enter Tryz.func98, Tryz.ntmps98
 go_wp2_with fail
 generalize w.alloc (.cells #[.int .i64 1, .int .i64 2, .int .i64 3] 3) = w0 at *
 go_loopw [7] (fun i W => ∃ k : Nat, k ≤ 3 /\ i = .int .i64 k /\ W = w0 /\ ∀ j : Nat, 1 ≤ j -> j < k + 1 -> ¬ s.data.toList = V.qb j) (fun i _ => 3 - (intOf i).toNat)
 case atStart => exact ⟨0, by omega, rfl, rfl, fun j h1 h2 => by omega⟩
 case round =>
  obtain ⟨k, hk, rfl, rfl, hz⟩ := hrel
  have HZ := zvq hz
  clear hz
  by_cases hlt : k < 3
  ·have hcell := HC.out k hlt
   obtain ⟨n, hn⟩ : ∃ n : Nat, n = k + 1 := ⟨_, rfl⟩
   rw [← hn] at hcell
   have HNK := zvq hn
   clear hn
   have i1 : (0 : Int) ≤ (k : Int) := by omega
   have i2 : (k : Int) < 3 := by omega
   go_wp2_with fail
   refine (zki _ _).mono ?_
   rintro e w' ⟨rfl, rfl⟩
   by_cases he : s.data.toList = V.qb n
   ·have HE := zvq he
    have hs : s = ⟨(V.qb n).toArray⟩ := jj (by rw [wl]; exact he)
    have HR : Hid (V.qh s.data.toList = n) := zvq (V.zmt (by have := HNK.out; omega) (by have := HNK.out; omega) he)
    rw [← hs]
    clear he hs
    go_wp2
    go_ret
    exact ⟨zn HR.out.symm, HB.out⟩
   ·have hne : ((⟨(V.qb n).toArray⟩ : ByteArray).toList == s.toList) = false := by
     rw [Lib.toList_data, Lib.toList_data, wl]
     exact zvu.2 fun e => he e.symm
    have HR : Hid (∀ j : Nat, 1 ≤ j -> j < n + 1 -> ¬ s.data.toList = V.qb j) := zvq fun j h1 h2 => by
     by_cases e : j = n
     ·subst e; exact he
     ·exact HZ.out j h1 (by have := HNK.out; omega)
    generalize (⟨(V.qb n).toArray⟩ : ByteArray) = x at *
    clear he
    go_wp2
    go_round
    case rel => exact ⟨k + 1, by omega, by go_num, (by first | exact trivial | rfl), by rw [← HNK.out]; exact HR.out⟩
    case measure => simp [intOf]; omega
  ·have HR : Hid (V.qh s.data.toList = 0) := zvq (V.znz fun j h1 h2 => HZ.out j h1 (by omega))
   go_wp2
   go_ret
   exact ⟨zn HR.out.symm, HB.out⟩
theorem zlx (s : ByteArray) (w : World) : Calls Tryz.prog 88 #[.string s] w fun e w' => e = .returned (.bool false) /\ w' = w := by
 go_enter Tryz.func88, Tryz.ntmps88
 go_wp2
 go_ret
 first | exact ⟨rfl, rfl⟩ | simp
theorem zr5 (s t : ByteArray) (w : World) : Calls Tryz.prog 61 #[.string s, .string t] w fun e w' => e = .returned (.int .i64 (Lib.compareBytes s.data.toList t.data.toList)) /\ w' = w := by
 have h1 : Op.bytesLess s.toList t.toList = decide (Lib.compareBytes s.data.toList t.data.toList < 0) := by rw [Lib.toList_data, Lib.toList_data]; exact wi _ _
 have h2 : Op.bytesLess t.toList s.toList = decide (0 < Lib.compareBytes s.data.toList t.data.toList) := by
  rw [Lib.toList_data, Lib.toList_data, wi, V.xg s.data.toList t.data.toList]
  exact decide_eq_decide.2 (by show - V.cb s.data.toList t.data.toList < 0 ↔ 0 < V.cb s.data.toList t.data.toList; omega)
 have h3 : (s.toList == t.toList) = decide (Lib.compareBytes s.data.toList t.data.toList = 0) := by
  rw [Lib.toList_data, Lib.toList_data, Bool.eq_iff_iff, beq_iff_eq, decide_eq_true_eq]
  exact ⟨fun e => by rw [e]; exact V.ul _, fun e => V.zq3 e⟩
 have HR : Hid (Lib.compareBytes s.data.toList t.data.toList = -1 ∨ Lib.compareBytes s.data.toList t.data.toList = 0 ∨ Lib.compareBytes s.data.toList t.data.toList = 1) := zvq (V.zlo _ _)
 generalize Lib.compareBytes s.data.toList t.data.toList = c at *
 go_enter Tryz.func61, Tryz.ntmps61
 go_wp2_with fail
 refine (zlx s _).mono ?_
 rintro e w' ⟨rfl, rfl⟩
 go_wp2_with fail
 refine (zlx t _).mono ?_
 rintro e w' ⟨rfl, rfl⟩
 rcases HR.out with rfl | rfl | rfl
 all_goals
  simp only [show decide ((-1 : Int) < 0) = true from rfl, show decide ((0 : Int) < -1) = false from rfl, show decide ((0 : Int) < 0) = false from rfl, show decide ((1 : Int) < 0) = false from rfl, show decide ((0 : Int) < 1) = true from rfl, show decide ((-1 : Int) = 0) = false from rfl, show decide ((0 : Int) = 0) = true from rfl, show decide ((1 : Int) = 0) = false from rfl] at h1 h2 h3
  clear HR
  go_wp2
  go_ret
  first | exact ⟨rfl, rfl⟩ | simp
theorem zaz (c : UInt8) (w : World) : Calls Tryz.prog 82 #[.int .u8 c.toNat] w fun e w' => e = .returned (.bool (V.jd c)) /\ w' = w := by
 obtain ⟨n, hn⟩ : ∃ n : Int, n = (c.toNat : Int) := ⟨_, rfl⟩
 have HP : Hid (V.jd c = (decide (33 ≤ n) && (decide (n ≤ 125) && (n != 37)))) := zvq (by
   have hb : (n != 37) = !decide (n = 37) := rfl
   rw [hb]
   unfold V.jd
   rw [decide_eq_decide.2 (show 33 ≤ c.toNat ↔ 33 ≤ n by omega), decide_eq_decide.2 (show c.toNat ≤ 125 ↔ n ≤ 125 by omega), decide_eq_decide.2 (show c.toNat = 37 ↔ n = 37 by omega)])
 rw [← hn]
 clear hn
 go_enter Tryz.func82, Tryz.ntmps82
 go_wp2
 all_goals go_ret
 all_goals exact ⟨zc (by rw [HP.out]; simp_all; try omega), rfl⟩
theorem zcc (c : UInt8) (w : World) : Calls Tryz.prog 74 #[.int .u8 c.toNat] w fun e w' => e = .returned (.bool (V.jd c)) /\ w' = w := by
 obtain ⟨n, hn⟩ : ∃ n : Int, n = (c.toNat : Int) := ⟨_, rfl⟩
 have HP : Hid (V.jd c = (decide (33 ≤ n) && (decide (n ≤ 125) && (n != 37)))) := zvq (by
   have hb : (n != 37) = !decide (n = 37) := rfl
   rw [hb]
   unfold V.jd
   rw [decide_eq_decide.2 (show 33 ≤ c.toNat ↔ 33 ≤ n by omega), decide_eq_decide.2 (show c.toNat ≤ 125 ↔ n ≤ 125 by omega), decide_eq_decide.2 (show c.toNat = 37 ↔ n = 37 by omega)])
 rw [← hn]
 clear hn
 go_enter Tryz.func74, Tryz.ntmps74
 go_wp2
 all_goals go_ret
 all_goals exact ⟨zc (by rw [HP.out]; simp_all; try omega), rfl⟩
theorem zu9 {l : V.Bs} {k : Nat} (h : k < l.length) : ((l.take (k + 1)).map V.ue).sum = ((l.take k).map V.ue).sum + V.ue l[k] := by
 exact z0w
theorem zte (l : V.Bs) (k : Nat) : ((l.take k).map V.ue).sum ≤ 3 * l.length := by
 have := V.sum_le (l.take k)
 rw [List.length_take] at this
 omega
theorem z0i {P : Prop} (h : P := by
 clear hp HT
 go_wp2
 go_round
 case rel => exact ⟨k + 1, by omega, by go_num, by rw [HN.out]; go_num⟩
 case measure => simp [intOf]; omega) : P := h
theorem zh6 (s : ByteArray) (w : World) (hs : s.size ≤ 100000) : Calls Tryz.prog 55 #[.string s] w fun e w' => e = .returned (.int .i64 (V.wj s.data.toList : Nat)) /\ w' = w := by
 go_enter Tryz.func55, Tryz.ntmps55
 go_wp2
 go_loop [3, 4] (fun nv iv => ∃ k : Nat, k ≤ s.size /\ iv = .int .i64 k /\ nv = .int .i64 (((s.data.toList.take k).map V.ue).sum : Nat)) (fun _ iv => s.size - (intOf iv).toNat)
 case atStart => exact ⟨0, Nat.zero_le _, rfl, rfl⟩
 case round =>
  obtain ⟨k, hk, rfl, rfl⟩ := hrel
  have hl := zf s
  have hle := zte s.data.toList k
  rw [hl] at hle
  by_cases hlt : k < s.size
  ·have HT := zvq (zu9 (l := s.data.toList) (k := k) (by omega))
   have he : s.data.toList[k]'(by omega) = s[k] := by simp; rfl
   rw [he] at HT
   obtain ⟨q, hq⟩ : ∃ q, q = ((s.data.toList.take k).map V.ue).sum := ⟨_, rfl⟩
   rw [← hq] at HT hle ⊢
   clear he hl hq
   go_wp2_with fail
   refine (zaz s[k] w).mono ?_
   rintro e w' ⟨rfl, rfl⟩
   rcases hp : V.jd s[k] with _ | _
   ·have HN : Hid (((s.data.toList.take (k + 1)).map V.ue).sum = q + 3) := zvq (by rw [HT.out]; unfold V.ue; rw [hp]; rfl)
    exact z0i
   ·have HN : Hid (((s.data.toList.take (k + 1)).map V.ue).sum = q + 1) := zvq (by rw [HT.out]; unfold V.ue; rw [hp]; rfl)
    exact z0i
  ·obtain rfl : k = s.size := by omega
   have ht : s.data.toList.take s.size = s.data.toList := List.take_of_length_le (by omega)
   rw [ht] at hle ⊢
   have HS : Hid (V.wj s.data.toList = max ((s.data.toList.map V.ue).sum) 1) := zvq rfl
   obtain ⟨q, hq⟩ : ∃ q, q = (s.data.toList.map V.ue).sum := ⟨_, rfl⟩
   rw [← hq] at HS hle ⊢
   clear ht hl hq
   go_wp2
   go_ret
   exact ⟨by rw [HS.out, show ((max q 1 : Nat) : Int) = max (q : Int) 1 by omega]; rfl, rfl⟩
open Go.RowKit
def bvals (l : V.Bs) : List Value := l.map fun b => Value.int .u8 b.toNat
theorem zny (l m : V.Bs) : bvals l ++ Lib.strCells ⟨m.toArray⟩ = bvals (l ++ m) := by simp [bvals, Lib.strCells]
theorem zfp (l m : V.Bs) : bvals l ++ bvals m = bvals (l ++ m) := by simp [bvals]
theorem zg6 (l : V.Bs) : (bvals l).length = l.length := by simp [bvals]
theorem z0v {P : Prop} (h : P := by
 obtain ⟨i, hi, hzz⟩ := Option.map_eq_some_iff.1 h
 simp only [Prod.mk.injEq] at hzz
 exact ⟨i, hi, hzz.1, hzz.2.1, hzz.2.2⟩) : P := h
theorem ww : ∃ i, Tryz.prog.info? 5 = some i /\ i.zero = some (.int .u8 0) /\ i.size = 1 /\ i.bytes = 1 := by
 have h : (Tryz.prog.info? 5).map (fun i => (i.zero, i.size, i.bytes)) = some (some (.int .u8 0), 1, 1) := by kernel_rfl
 exact z0v
def Buf (N : Nat) (v : Value) (l : V.Bs) (W0 w : World) : Prop := Lib.OwnBuf N 5 v l.length (bvals l) W0 w
theorem Buf.nil {N : Nat} {W0 w : World} (h : Below N W0 w) (hN : N ≤ w.heap.size) : Buf N (.slice none 0 0) [] W0 w := ⟨World.ownsRowF_nil _ _ _ _, h, hN⟩
theorem Buf.below {N : Nat} {v : Value} {l : V.Bs} {W0 w w' : World} (h : Buf N v l W0 w) (hb : Below w.heap.size w w') : Buf N v l W0 w' :=
 ⟨h.1.kept (row := none) ⟨hb.os, hb.tape, hb.output, hb.size, fun k hk _ => hb.block k hk⟩ (by cases hv : v.ownBlock <;> simp), h.2.1.trans (hb.mono h.2.2), Nat.le_trans h.2.2 hb.size⟩
theorem Buf.slice {N : Nat} {v : Value} {l : V.Bs} {W0 w : World} (h : Buf N v l W0 w) : ∃ a cap, v = .slice a l.length cap := by
 rcases h.1.2 with ⟨rfl, hn⟩ | ⟨g, cap, cur, fz, rfl, _⟩
 ·exact ⟨none, 0, by rw [hn]⟩
 ·exact ⟨_, cap, rfl⟩
theorem zai {ops : Array Oper} {rest : List Oper} {o : Oper} {a : Act} {w : World} {Q : Exit -> Act -> World -> Prop} (hgd : o.guard = none) (s x : Operand)
  (ho : o.op = .call { callee := .builtin .append, args := #[s, x], argTypes := #[36, 36] })
  (N : Nat) (v : Value) (l : V.Bs) (W0 : World) (hs : a.eval s = v) (hb : Buf N v l W0 w) (b cap : Nat) (m : V.Bs) (hx : a.eval x = .slice (some ⟨b, 0, none⟩) m.length cap) (hc : ∀ j u, (bvals m)[j]? = some u -> w.cell? ⟨b, j, none⟩ = some u) (hl : l.length + m.length ≤ 10000000)
  (h : ∀ v' w', Buf N v' (l ++ m) W0 w' -> wpList Tryz.prog ops Q rest (a.put o.dst v') w') : wpList Tryz.prog ops Q (o :: rest) a w := by
 obtain ⟨i, hi, hz, h1, h2⟩ := ww
 refine wpList_append_ownF w hgd s x 36 ho N 5 i (.int .u8 0) 1 1 Tryz.underlying36 hi hz h1 h2 rfl (by decide) v l.length (bvals l) hs hb.1 ⟨b, 0, none⟩ m.length cap (bvals m) hx (by rw [zg6]; omega) ?_ ?_ (by unfold maxLen; omega) (by omega) hb.2.2 ?_
 ·intro j u hj
  have := hc j u hj
  rw [Addr.add_mid, Nat.zero_add]
  exact this
 ·intro u hu
  unfold bvals at hu
  obtain ⟨c, _, rfl⟩ := List.mem_map.1 hu
  rfl
 ·intro v' w' ho' hg _
  refine h v' w' ?_
  have := hb.grown ho' hg
  rw [zfp] at this
  unfold Buf
  rw [List.length_append]
  exact this
theorem ztj {ops : Array Oper} {rest : List Oper} {o : Oper} {a : Act} {w : World} {Q : Exit -> Act -> World -> Prop} (hgd : o.guard = none) (s x : Operand)
  (ho : o.op = .call { callee := .builtin .append, args := #[s, x], argTypes := #[36, 9] })
  (N : Nat) (v : Value) (l : V.Bs) (W0 : World) (hs : a.eval s = v) (hb : Buf N v l W0 w) (m : V.Bs) (hx : a.eval x = .string ⟨m.toArray⟩) (hl : l.length + m.length ≤ 10000000)
  (h : ∀ v' w', Buf N v' (l ++ m) W0 w' -> wpList Tryz.prog ops Q rest (a.put o.dst v') w') : wpList Tryz.prog ops Q (o :: rest) a w := by
 obtain ⟨i, hi, hz, h1, h2⟩ := ww
 have hsz : (ByteArray.mk m.toArray).size = m.length := by simp [ByteArray.size]
 refine Lib.wpList_append_text hgd s x 36 9 ho N 5 i Tryz.underlying36 Tryz.underlying9 hi hz h1 h2 v l.length (bvals l) hs W0 hb ⟨m.toArray⟩ hx (by rw [hsz]; omega) ?_
 intro v' w' ho'
 refine h v' w' ?_
 rw [zny, hsz] at ho'
 unfold Buf
 rw [List.length_append]
 exact ho'
theorem zt8 {ops : Array Oper} {rest : List Oper} {o : Oper} {a : Act} {w : World} {Q : Exit -> Act -> World -> Prop} (hgd : o.guard = none) (c : Operand) (ho : o.op = .makeSlice 36 (.const (.int .i64 0)) c)
  (N n : Nat) (W0 : World) (hb : Below N W0 w) (hN : N ≤ w.heap.size) (hc : a.eval c = .int .i64 n) (hn : n ≤ 10000000)
  (h : ∀ w', Buf N (.slice (some ⟨w.heap.size, 0, none⟩) 0 n) [] W0 w' -> wpList Tryz.prog ops Q rest (a.put o.dst (.slice (some ⟨w.heap.size, 0, none⟩) 0 n)) w') : wpList Tryz.prog ops Q (o :: rest) a w := by
 obtain ⟨i, hi, hz, h1, h2⟩ := ww
 refine wpList_make_own w hgd _ c 36 ho N 5 i (.int .u8 0) 1 Tryz.underlying36 hi hz h1 .i64 .i64 n n rfl hc rfl (by rw [h2]; omega) (by unfold maxLen; omega) hN ?_
 intro w' ho' hg
 exact h w' ⟨World.ownsRowF_of ho', hb.grown hg hN (fun k e => by cases e), Nat.le_trans hN hg.size⟩
theorem zcn {N : Nat} {v : Value} {l : V.Bs} {W0 w : World} (h : Buf N v l W0 w) (h0 : 0 < l.length) : (convert 36 9 v).run Tryz.prog w = .ok (.string ⟨l.toArray⟩) w := by
 obtain ⟨ho, _, _⟩ := h
 have hcs := fun (g : Nat) hg => ho.cells (g := g) hg
 rcases ho.2 with ⟨_, e⟩ | ⟨g, cap, cur, fz, rfl, _⟩
 ·omega
 ·have hc := hcs g rfl
  have r := run_convert_bytes_arg (P := Tryz.prog) w 36 5 Tryz.underlying36 Tryz.underlying5 g 0 l.length cap (l.map fun b => (b.toNat : Int)) (by simp) (fun i hi => by
    have hu : (bvals l)[i]? = some (.int .u8 ((l.map fun b => (b.toNat : Int)).getD i 0)) := by
      unfold bvals
      rw [List.getElem?_map, List.getElem?_eq_getElem (by omega), List.getD_eq_getElem?_getD, List.getElem?_map, List.getElem?_eq_getElem (by omega)]
      rfl
    have := hc i _ hu
    rw [show (⟨g, 0, none⟩ : Addr).add i = ⟨g, 0 + i, none⟩ by unfold Addr.add; split <;> simp_all] at this
    exact this) 9 Tryz.underlying9
  rw [r]
  congr 2
  apply jj
  rw [strOfNums_data, List.map_map]
  simp only [wl]
  conv => rhs; rw [← List.map_id l]
  apply List.map_congr_left
  intro b _
  simp
theorem xu {o : Oper} {ev : Operand -> Value} {w : World} {x y : Operand} {s : ByteArray} {k : IntKind} {i : Int} {b : UInt8} (ho : o.op = .index 9 x y) (hx : ev x = .string s) (hy : ev y = .int k i) (h0 : 0 ≤ i) (hb : s.data.toList[i.toNat]? = some b) :
  (execOp ev o).run Tryz.prog w = .ok (.value (.int .u8 b.toNat)) w := by
 have h1 := (List.getElem?_eq_some_iff.1 hb).1
 have h2 : i.toNat < s.size := by rw [Array.length_toList] at h1; exact h1
 have he : s[i.toNat] = b := by
  rw [← (List.getElem?_eq_some_iff.1 hb).2]
  rfl
 have hr := run_index_string (P := Tryz.prog) w 9 s k i Tryz.underlying9
 rw [dif_pos ⟨h0, by omega⟩, he] at hr
 unfold execOp
 simp only [ho, hx, hy, Sem.run_bind, hr, Result.andThen_ok, Sem.run_pure]
theorem zug {o : Oper} {ev : Operand -> Value} {w : World} {x : Operand} {c : UInt8} (ho : o.op = .binOp .shr 5 x (.const (.int .u64 4)) 35) (hc : ev (.const (.int .u64 4)) = .int .u64 4) (hx : ev x = .int .u8 c.toNat) : (execOp ev o).run Tryz.prog w = .ok (.value (.int .u8 ((c.toNat / 16 : Nat) : Int))) w := by
 unfold execOp
 simp only [ho, hx, hc]
 go_simp
theorem and15 : ∀ n : Fin 256, bits BinOp.and .u8 (n.val : Int) 15 = (n.val : Int) % 16 := by decide +kernel
theorem zqo {o : Oper} {ev : Operand -> Value} {w : World} {x : Operand} {c : UInt8} (ho : o.op = .binOp .and 5 x (.const (.int .u8 15)) 5) (hc : ev (.const (.int .u8 15)) = .int .u8 15) (hx : ev x = .int .u8 c.toNat) : (execOp ev o).run Tryz.prog w = .ok (.value (.int .u8 ((c.toNat % 16 : Nat) : Int))) w := by
 unfold execOp
 simp only [ho, hx, hc]
 go_simp
 exact and15 ⟨c.toNat, c.toNat_lt⟩
theorem zf3 {ops : Array Oper} {o : Oper} {a : Act} {w : World} {K : Act -> World -> Prop} {Q : Exit -> Act -> World -> Prop} {E : Prop} (hgd : o.guard = none) (e1 e2 e3 : Operand) (ho : o.op = .buildSlice 36 3 #[(0, e1), (1, e2), (2, e3)])
  (b1 b2 b3 : UInt8) (h1 : a.eval e1 = .int .u8 b1.toNat) (h2 : a.eval e2 = .int .u8 b2.toNat) (h3 : a.eval e3 = .int .u8 b3.toNat)
  (h : K (a.put o.dst (.slice (some ⟨w.heap.size, 0, none⟩) 3 3)) (w.alloc (.cells (bvals [b1, b2, b3]).toArray 5))) : if Region.wanted o (yielded ops a.tmps) = true then Oper.wp Tryz.prog o a w K Q else E := by
 rw [if_pos (by simp [Region.wanted, hgd])]
 obtain ⟨i, hi, hz, hs, hb⟩ := ww
 refine wp_buildSlice _ 5 3 _ ho (bvals [b1, b2, b3]).toArray i _ Tryz.underlying36 hi hz (by rw [hs]; decide) (by rw [hs]; decide) ?_ h
 have := Great.fill_whole (s := 1) (by decide) [Value.int .u8 b1.toNat, Value.int .u8 b2.toNat, Value.int .u8 b3.toNat] ((Array.range (3 * i.size)).map ((Value.int .u8 0).cells[· % (Value.int .u8 0).cells.size]!)) (fun v hv => by
   rcases List.mem_cons.1 hv with rfl | hv
   · rfl
   · rcases List.mem_cons.1 hv with rfl | hv
     · rfl
     · rw [List.mem_singleton.1 hv]; rfl) (by rw [hs]; simp)
 rw [hs] at this ⊢
 simp only [h1, h2, h3, List.map_toArray, List.map_cons, List.map_nil]
 exact this.trans (by simp [Value.cells, bvals])
theorem zkm {ops : Array Oper} {o : Oper} {a : Act} {w : World} {K : Act -> World -> Prop} {Q : Exit -> Act -> World -> Prop} {E : Prop} (hgd : o.guard = none) (s x : Operand)
  (ho : o.op = .call { callee := .builtin .append, args := #[s, x], argTypes := #[36, 36] })
  (N : Nat) (v : Value) (l : V.Bs) (W0 : World) (hs : a.eval s = v) (hb : Buf N v l W0 w) (b cap : Nat) (m : V.Bs) (hx : a.eval x = .slice (some ⟨b, 0, none⟩) m.length cap) (hc : ∀ j u, (bvals m)[j]? = some u -> w.cell? ⟨b, j, none⟩ = some u) (hl : l.length + m.length ≤ 10000000)
  (h : ∀ v' w', Buf N v' (l ++ m) W0 w' -> K (a.put o.dst v') w') : if Region.wanted o (yielded ops a.tmps) = true then Oper.wp Tryz.prog o a w K Q else E := by
 rw [if_pos (by simp [Region.wanted, hgd])]
 obtain ⟨i, hi, hz, h1, h2⟩ := ww
 obtain ⟨v', w', hr, ho', hg, _⟩ := run_append_ownF (P := Tryz.prog) w N 36 o.type 5 i (.int .u8 0) 1 1 Tryz.underlying36 hi hz h1 h2 rfl (by decide) v l.length (bvals l) hb.1 ⟨b, 0, none⟩ m.length cap (bvals m) (by rw [zg6]; omega) (by
   intro j u hj
   have := hc j u hj
   rw [Addr.add_mid, Nat.zero_add]
   exact this) (by
   intro u hu
   unfold bvals at hu
   obtain ⟨c, _, rfl⟩ := List.mem_map.1 hu
   rfl) (by unfold maxLen; omega) (by omega) hb.2.2
 unfold Oper.wp execOp
 simp only [ho, resolve, invoke, builtin, Sem.run_bind, Sem.run_pure, Result.andThen_ok, List.map_toArray, List.map_cons, List.map_nil, hs, hx, hr]
 refine h v' w' ?_
 have := hb.grown ho' hg
 rw [zfp] at this
 unfold Buf
 rw [List.length_append]
 exact this
theorem ku (m : V.Bs) (w : World) : ∀ j u, (bvals m)[j]? = some u -> (w.alloc (.cells (bvals m).toArray 5)).cell? ⟨w.heap.size, j, none⟩ = some u := fun j u h => by
 rw [World.cell?_alloc_new]
 simpa using h
end Go.Proofs.YtiloljoancdcbaaGreatDoor
