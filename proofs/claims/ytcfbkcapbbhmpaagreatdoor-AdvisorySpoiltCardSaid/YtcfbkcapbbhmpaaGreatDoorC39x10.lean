import Derived.Test.YtcfbkcapbbhmpaaGreatDoorC39x02
import Derived.Test.YtcfbkcapbbhmpaaGreatDoorC39x04
import Derived.Test.YtcfbkcapbbhmpaaGreatDoorC39x07
import Derived.Test.YtcfbkcapbbhmpaaGreatDoorC39x09
import Derived.Test.YtcfbkcapbbhmpaaGreatDoorC39x08
import Derived.Test.YtcfbkcapbbhmpaaGreatDoorC39x05
import Derived.Test.YtcfbkcapbbhmpaaGreatDoorC39x06
import Derived.Test.YtcfbkcapbbhmpaaGreatDoorC39x01
import Derived.OrdersHeld
import Derived.Lib.BufSteps
import Derived.OwnWalk
import Derived.BigRegion
import Derived.Deep.MidRow
import Derived.Great.BuildSlice
import Derived.Deep.Upon
set_option linter.all false
set_option maxRecDepth 100000
set_option maxHeartbeats 3200000
namespace Go.Proofs.YtcfbkcapbbhmpaaGreatDoor
open Go.RowKit
theorem zzx {P : Prop} (h : P := by
 go_enter Tryz.func34, Tryz.ntmps34
 go_wp2
 go_ret
 exact ⟨rfl, rfl⟩) : P := h
theorem zk1 (n : Int) (w : World) :
  Calls Tryz.prog 34 #[.int .i64 n] w fun e w' => e = .returned (.string ⟨(V.qb n).toArray⟩) /\ w' = w := by
 by_cases h1 : n = 1
 ·subst h1
  exact zzx
 by_cases h2 : n = 2
 ·subst h2
  exact zzx
 by_cases h3 : n = 3
 ·subst h3
  exact zzx
 have HN : Hid (V.qb n = []) := zwe (by unfold V.qb; rw [if_neg h1, if_neg h2, if_neg h3])
 go_enter Tryz.func34, Tryz.ntmps34
 go_wp2
 go_ret
 exact ⟨by rw [HN.out]; rfl, rfl⟩
theorem zzc {P : Prop} (h : P := by
 go_enter Tryz.func16, Tryz.ntmps16
 go_wp2
 go_ret
 exact ⟨rfl, rfl⟩) : P := h
theorem zin (n : Int) (w : World) :
  Calls Tryz.prog 16 #[.int .i64 n] w fun e w' => e = .returned (.string ⟨(V.qb n).toArray⟩) /\ w' = w := by
 by_cases h1 : n = 1
 ·subst h1
  exact zzc
 by_cases h2 : n = 2
 ·subst h2
  exact zzc
 by_cases h3 : n = 3
 ·subst h3
  exact zzc
 have HN : Hid (V.qb n = []) := zwe (by unfold V.qb; rw [if_neg h1, if_neg h2, if_neg h3])
 go_enter Tryz.func16, Tryz.ntmps16
 go_wp2
 go_ret
 exact ⟨by rw [HN.out]; rfl, rfl⟩
theorem ub (s : ByteArray) (w : World) :
  Calls Tryz.prog 29 #[.string s] w fun e w' => e = .returned (.int .i64 (V.qh s.data.toList)) /\ w' = w := by
 go_enter Tryz.func29, Tryz.ntmps29
 go_wp2
 go_loop [3] (fun i => ∃ k : Nat, k ≤ 4 /\ 1 ≤ k /\ i = .int .i64 k /\ ∀ j : Nat, 1 ≤ j -> j < k -> ¬ s.data.toList = V.qb j) (fun i => 4 - (intOf i).toNat)
 case atStart => exact ⟨1, by omega, by omega, rfl, fun j h1 h2 => by omega⟩
 case round =>
  obtain ⟨k, hk, hk1, rfl, hz⟩ := hrel
  have HZ := zwe hz
  clear hz
  by_cases hlt : k ≤ 3
  ·go_wp2_with fail
   refine (zin _ _).mono ?_
   rintro e w' ⟨rfl, rfl⟩
   by_cases he : s.data.toList = V.qb k
   ·have HE := zwe he
    have hs : s = ⟨(V.qb k).toArray⟩ := jk (by rw [zaa]; exact he)
    have HR : Hid (V.qh s.data.toList = k) := zwe (V.znb hk1 hlt he)
    rw [← hs]
    clear he hs
    go_wp2
    go_ret
    exact ⟨zp HR.out.symm, rfl⟩
   ·have hne : ((⟨(V.qb k).toArray⟩ : ByteArray).toList == s.toList) = false := by
     rw [Lib.toList_data, Lib.toList_data, zaa]
     exact zwi.2 fun e => he e.symm
    have HR : Hid (∀ j : Nat, 1 ≤ j -> j < k + 1 -> ¬ s.data.toList = V.qb j) := zwe fun j h1 h2 => by
     by_cases e : j = k
     ·subst e; exact he
     ·exact HZ.out j h1 (by omega)
    generalize (⟨(V.qb k).toArray⟩ : ByteArray) = x at *
    clear he
    go_wp2
    go_round
    case rel => exact ⟨k + 1, by omega, by omega, by go_num, HR.out⟩
    case measure => simp [intOf]; omega
  ·have HR : Hid (V.qh s.data.toList = 0) := zwe (V.zoj fun j h1 h2 => HZ.out j h1 (by omega))
   go_wp2
   go_ret
   exact ⟨zp HR.out.symm, rfl⟩
theorem zq7 (s : ByteArray) (w : World) :
  Calls Tryz.prog 80 #[.string s] w fun e w' => e = .returned (.int .i64 (V.qh s.data.toList)) /\ Below w.heap.size w w' := by
 have HB := zwe ((zwh w.heap.size w).alloc (zwg _) (.cells #[.int .i64 1, .int .i64 2, .int .i64 3] 3))
 have HC : Hid (∀ j, j < 3 -> (w.alloc (.cells #[.int .i64 1, .int .i64 2, .int .i64 3] 3)).cell? ⟨w.heap.size, j, none⟩ = some (.int .i64 ((j + 1 : Nat) : Int))) := zwe (fun j hj => by
   rw [World.cell?_alloc_new]
   have : j = 0 ∨ j = 1 ∨ j = 2 := by omega
   rcases this with rfl | rfl | rfl <;> rfl)
 go_enter Tryz.func80, Tryz.ntmps80
 go_wp2_with fail
 generalize w.alloc (.cells #[.int .i64 1, .int .i64 2, .int .i64 3] 3) = w0 at *
 go_loopw [7] (fun i W => ∃ k : Nat, k ≤ 3 /\ i = .int .i64 k /\ W = w0 /\ ∀ j : Nat, 1 ≤ j -> j < k + 1 -> ¬ s.data.toList = V.qb j) (fun i _ => 3 - (intOf i).toNat)
 case atStart => exact ⟨0, by omega, rfl, rfl, fun j h1 h2 => by omega⟩
 case round =>
  obtain ⟨k, hk, rfl, rfl, hz⟩ := hrel
  have HZ := zwe hz
  clear hz
  by_cases hlt : k < 3
  ·have hcell := HC.out k hlt
   obtain ⟨n, hn⟩ : ∃ n : Nat, n = k + 1 := ⟨_, rfl⟩
   rw [← hn] at hcell
   have HNK := zwe hn
   clear hn
   have i1 : (0 : Int) ≤ (k : Int) := by omega
   have i2 : (k : Int) < 3 := by omega
   go_wp2_with fail
   refine (zk1 _ _).mono ?_
   rintro e w' ⟨rfl, rfl⟩
   by_cases he : s.data.toList = V.qb n
   ·have HE := zwe he
    have hs : s = ⟨(V.qb n).toArray⟩ := jk (by rw [zaa]; exact he)
    have HR : Hid (V.qh s.data.toList = n) := zwe (V.znb (by have := HNK.out; omega) (by have := HNK.out; omega) he)
    rw [← hs]
    clear he hs
    go_wp2
    go_ret
    exact ⟨zp HR.out.symm, HB.out⟩
   ·have hne : ((⟨(V.qb n).toArray⟩ : ByteArray).toList == s.toList) = false := by
     rw [Lib.toList_data, Lib.toList_data, zaa]
     exact zwi.2 fun e => he e.symm
    have HR : Hid (∀ j : Nat, 1 ≤ j -> j < n + 1 -> ¬ s.data.toList = V.qb j) := zwe fun j h1 h2 => by
     by_cases e : j = n
     ·subst e; exact he
     ·exact HZ.out j h1 (by have := HNK.out; omega)
    generalize (⟨(V.qb n).toArray⟩ : ByteArray) = x at *
    clear he
    go_wp2
    go_round
    case rel => exact ⟨k + 1, by omega, by go_num, (by first | exact trivial | rfl), by rw [← HNK.out]; exact HR.out⟩
    case measure => simp [intOf]; omega
  ·have HR : Hid (V.qh s.data.toList = 0) := zwe (V.zoj fun j h1 h2 => HZ.out j h1 (by omega))
   go_wp2
   go_ret
   exact ⟨zp HR.out.symm, HB.out⟩
theorem zmg (s : ByteArray) (w : World) : Calls Tryz.prog 118 #[.string s] w fun e w' => e = .returned (.bool false) /\ w' = w := by
 go_enter Tryz.func118, Tryz.ntmps118
 go_wp2
 go_ret
 first | exact ⟨rfl, rfl⟩ | simp
theorem zsy (s t : ByteArray) (w : World) : Calls Tryz.prog 89 #[.string s, .string t] w fun e w' => e = .returned (.int .i64 (Lib.compareBytes s.data.toList t.data.toList)) /\ w' = w := by
 have h1 : Op.bytesLess s.toList t.toList = decide (Lib.compareBytes s.data.toList t.data.toList < 0) := by rw [Lib.toList_data, Lib.toList_data]; exact wv _ _
 have h2 : Op.bytesLess t.toList s.toList = decide (0 < Lib.compareBytes s.data.toList t.data.toList) := by
  rw [Lib.toList_data, Lib.toList_data, wv, V.kt s.data.toList t.data.toList]
  exact decide_eq_decide.2 (by show - V.cb s.data.toList t.data.toList < 0 ↔ 0 < V.cb s.data.toList t.data.toList; omega)
 have h3 : (s.toList == t.toList) = decide (Lib.compareBytes s.data.toList t.data.toList = 0) := by
  rw [Lib.toList_data, Lib.toList_data, Bool.eq_iff_iff, beq_iff_eq, decide_eq_true_eq]
  exact ⟨fun e => by rw [e]; exact V.uy _, fun e => V.zlr e⟩
 have HR : Hid (Lib.compareBytes s.data.toList t.data.toList = -1 ∨ Lib.compareBytes s.data.toList t.data.toList = 0 ∨ Lib.compareBytes s.data.toList t.data.toList = 1) := zwe (V.zl7 _ _)
 generalize Lib.compareBytes s.data.toList t.data.toList = c at *
 go_enter Tryz.func89, Tryz.ntmps89
 go_wp2_with fail
 refine (zmg s _).mono ?_
 rintro e w' ⟨rfl, rfl⟩
 go_wp2_with fail
 refine (zmg t _).mono ?_
 rintro e w' ⟨rfl, rfl⟩
 rcases HR.out with rfl | rfl | rfl
 all_goals
  simp only [show decide ((-1 : Int) < 0) = true from rfl, show decide ((0 : Int) < -1) = false from rfl, show decide ((0 : Int) < 0) = false from rfl, show decide ((1 : Int) < 0) = false from rfl, show decide ((0 : Int) < 1) = true from rfl, show decide ((-1 : Int) = 0) = false from rfl, show decide ((0 : Int) = 0) = true from rfl, show decide ((1 : Int) = 0) = false from rfl] at h1 h2 h3
  clear HR
  go_wp2
  go_ret
  first | exact ⟨rfl, rfl⟩ | simp
theorem za6 (c : UInt8) (w : World) : Calls Tryz.prog 78 #[.int .u8 c.toNat] w fun e w' => e = .returned (.bool (V.jd c)) /\ w' = w := by
 obtain ⟨n, hn⟩ : ∃ n : Int, n = (c.toNat : Int) := ⟨_, rfl⟩
 have HP : Hid (V.jd c = (decide (33 ≤ n) && (decide (n ≤ 125) && (n != 37)))) := zwe (by
   have hb : (n != 37) = !decide (n = 37) := rfl
   rw [hb]
   unfold V.jd
   rw [decide_eq_decide.2 (show 33 ≤ c.toNat ↔ 33 ≤ n by omega), decide_eq_decide.2 (show c.toNat ≤ 125 ↔ n ≤ 125 by omega), decide_eq_decide.2 (show c.toNat = 37 ↔ n = 37 by omega)])
 rw [← hn]
 clear hn
 go_enter Tryz.func78, Tryz.ntmps78
 go_wp2
 all_goals go_ret
 all_goals exact ⟨zc (by rw [HP.out]; simp_all; try omega), rfl⟩
theorem zci (c : UInt8) (w : World) : Calls Tryz.prog 75 #[.int .u8 c.toNat] w fun e w' => e = .returned (.bool (V.jd c)) /\ w' = w := by
 obtain ⟨n, hn⟩ : ∃ n : Int, n = (c.toNat : Int) := ⟨_, rfl⟩
 have HP : Hid (V.jd c = (decide (33 ≤ n) && (decide (n ≤ 125) && (n != 37)))) := zwe (by
   have hb : (n != 37) = !decide (n = 37) := rfl
   rw [hb]
   unfold V.jd
   rw [decide_eq_decide.2 (show 33 ≤ c.toNat ↔ 33 ≤ n by omega), decide_eq_decide.2 (show c.toNat ≤ 125 ↔ n ≤ 125 by omega), decide_eq_decide.2 (show c.toNat = 37 ↔ n = 37 by omega)])
 rw [← hn]
 clear hn
 go_enter Tryz.func75, Tryz.ntmps75
 go_wp2
 all_goals go_ret
 all_goals exact ⟨zc (by rw [HP.out]; simp_all; try omega), rfl⟩
theorem zvz {l : V.Bs} {k : Nat} (h : k < l.length) : ((l.take (k + 1)).map V.uk).sum = ((l.take k).map V.uk).sum + V.uk l[k] := by
 exact z1f
theorem zt5 (l : V.Bs) (k : Nat) : ((l.take k).map V.uk).sum ≤ 3 * l.length := by
 have := V.sum_le (l.take k)
 rw [List.length_take] at this
 omega
theorem z01 {P : Prop} (h : P := by
 clear hp HT
 go_wp2
 go_round
 case rel => exact ⟨k + 1, by omega, by go_num, by rw [HN.out]; go_num⟩
 case measure => simp [intOf]; omega) : P := h
theorem zih (s : ByteArray) (w : World) (hs : s.size ≤ 100000) : Calls Tryz.prog 65 #[.string s] w fun e w' => e = .returned (.int .i64 (V.ww s.data.toList : Nat)) /\ w' = w := by
 go_enter Tryz.func65, Tryz.ntmps65
 go_wp2
 go_loop [3, 4] (fun nv iv => ∃ k : Nat, k ≤ s.size /\ iv = .int .i64 k /\ nv = .int .i64 (((s.data.toList.take k).map V.uk).sum : Nat)) (fun _ iv => s.size - (intOf iv).toNat)
 case atStart => exact ⟨0, Nat.zero_le _, rfl, rfl⟩
 case round =>
  obtain ⟨k, hk, rfl, rfl⟩ := hrel
  have hl := zf s
  have hle := zt5 s.data.toList k
  rw [hl] at hle
  by_cases hlt : k < s.size
  ·have HT := zwe (zvz (l := s.data.toList) (k := k) (by omega))
   have he : s.data.toList[k]'(by omega) = s[k] := by simp; rfl
   rw [he] at HT
   obtain ⟨q, hq⟩ : ∃ q, q = ((s.data.toList.take k).map V.uk).sum := ⟨_, rfl⟩
   rw [← hq] at HT hle ⊢
   clear he hl hq
   go_wp2_with fail
   refine (za6 s[k] w).mono ?_
   rintro e w' ⟨rfl, rfl⟩
   rcases hp : V.jd s[k] with _ | _
   ·have HN : Hid (((s.data.toList.take (k + 1)).map V.uk).sum = q + 3) := zwe (by rw [HT.out]; unfold V.uk; rw [hp]; rfl)
    exact z01
   ·have HN : Hid (((s.data.toList.take (k + 1)).map V.uk).sum = q + 1) := zwe (by rw [HT.out]; unfold V.uk; rw [hp]; rfl)
    exact z01
  ·obtain rfl : k = s.size := by omega
   have ht : s.data.toList.take s.size = s.data.toList := List.take_of_length_le (by omega)
   rw [ht] at hle ⊢
   have HS : Hid (V.ww s.data.toList = max ((s.data.toList.map V.uk).sum) 1) := zwe rfl
   obtain ⟨q, hq⟩ : ∃ q, q = (s.data.toList.map V.uk).sum := ⟨_, rfl⟩
   rw [← hq] at HS hle ⊢
   clear ht hl hq
   go_wp2
   go_ret
   exact ⟨by rw [HS.out, show ((max q 1 : Nat) : Int) = max (q : Int) 1 by omega]; rfl, rfl⟩
open Go.RowKit
def bvals (l : V.Bs) : List Value := l.map fun b => Value.int .u8 b.toNat
theorem zoi (l m : V.Bs) : bvals l ++ Lib.strCells ⟨m.toArray⟩ = bvals (l ++ m) := by simp [bvals, Lib.strCells]
theorem zf2 (l m : V.Bs) : bvals l ++ bvals m = bvals (l ++ m) := by simp [bvals]
theorem zhj (l : V.Bs) : (bvals l).length = l.length := by simp [bvals]
theorem z1e {P : Prop} (h : P := by
 obtain ⟨i, hi, hzz⟩ := Option.map_eq_some_iff.1 h
 simp only [Prod.mk.injEq] at hzz
 exact ⟨i, hi, hzz.1, hzz.2.1, hzz.2.2⟩) : P := h
theorem zag : ∃ i, Tryz.prog.info? 5 = some i /\ i.zero = some (.int .u8 0) /\ i.size = 1 /\ i.bytes = 1 := by
 have h : (Tryz.prog.info? 5).map (fun i => (i.zero, i.size, i.bytes)) = some (some (.int .u8 0), 1, 1) := by kernel_rfl
 exact z1e
def Buf (N : Nat) (v : Value) (l : V.Bs) (W0 w : World) : Prop := Lib.OwnBuf N 5 v l.length (bvals l) W0 w
theorem Buf.nil {N : Nat} {W0 w : World} (h : Below N W0 w) (hN : N ≤ w.heap.size) : Buf N (.slice none 0 0) [] W0 w := ⟨World.ownsRowF_nil _ _ _ _, h, hN⟩
theorem Buf.below {N : Nat} {v : Value} {l : V.Bs} {W0 w w' : World} (h : Buf N v l W0 w) (hb : Below w.heap.size w w') : Buf N v l W0 w' :=
 ⟨h.1.kept (row := none) ⟨hb.os, hb.tape, hb.output, hb.size, fun k hk _ => hb.block k hk⟩ (by cases hv : v.ownBlock <;> simp), h.2.1.trans (hb.mono h.2.2), Nat.le_trans h.2.2 hb.size⟩
theorem Buf.slice {N : Nat} {v : Value} {l : V.Bs} {W0 w : World} (h : Buf N v l W0 w) : ∃ a cap, v = .slice a l.length cap := by
 rcases h.1.2 with ⟨rfl, hn⟩ | ⟨g, cap, cur, fz, rfl, _⟩
 ·exact ⟨none, 0, by rw [hn]⟩
 ·exact ⟨_, cap, rfl⟩
theorem zaq {ops : Array Oper} {rest : List Oper} {o : Oper} {a : Act} {w : World} {Q : Exit -> Act -> World -> Prop} (hgd : o.guard = none) (s x : Operand)
  (ho : o.op = .call { callee := .builtin .append, args := #[s, x], argTypes := #[23, 23] })
  (N : Nat) (v : Value) (l : V.Bs) (W0 : World) (hs : a.eval s = v) (hb : Buf N v l W0 w) (b cap : Nat) (m : V.Bs) (hx : a.eval x = .slice (some ⟨b, 0, none⟩) m.length cap) (hc : ∀ j u, (bvals m)[j]? = some u -> w.cell? ⟨b, j, none⟩ = some u) (hl : l.length + m.length ≤ 10000000)
  (h : ∀ v' w', Buf N v' (l ++ m) W0 w' -> wpList Tryz.prog ops Q rest (a.put o.dst v') w') : wpList Tryz.prog ops Q (o :: rest) a w := by
 obtain ⟨i, hi, hz, h1, h2⟩ := zag
 refine wpList_append_ownF w hgd s x 23 ho N 5 i (.int .u8 0) 1 1 Tryz.underlying23 hi hz h1 h2 rfl (by decide) v l.length (bvals l) hs hb.1 ⟨b, 0, none⟩ m.length cap (bvals m) hx (by rw [zhj]; omega) ?_ ?_ (by unfold maxLen; omega) (by omega) hb.2.2 ?_
 ·intro j u hj
  have := hc j u hj
  rw [Addr.add_mid, Nat.zero_add]
  exact this
 ·intro u hu
  unfold bvals at hu
  obtain ⟨c, _, rfl⟩ := List.mem_map.1 hu
  rfl
 ·intro v' w' ho' hg _
  refine h v' w' ?_
  have := hb.grown ho' hg
  rw [zf2] at this
  unfold Buf
  rw [List.length_append]
  exact this
theorem zua {ops : Array Oper} {rest : List Oper} {o : Oper} {a : Act} {w : World} {Q : Exit -> Act -> World -> Prop} (hgd : o.guard = none) (s x : Operand)
  (ho : o.op = .call { callee := .builtin .append, args := #[s, x], argTypes := #[23, 9] })
  (N : Nat) (v : Value) (l : V.Bs) (W0 : World) (hs : a.eval s = v) (hb : Buf N v l W0 w) (m : V.Bs) (hx : a.eval x = .string ⟨m.toArray⟩) (hl : l.length + m.length ≤ 10000000)
  (h : ∀ v' w', Buf N v' (l ++ m) W0 w' -> wpList Tryz.prog ops Q rest (a.put o.dst v') w') : wpList Tryz.prog ops Q (o :: rest) a w := by
 obtain ⟨i, hi, hz, h1, h2⟩ := zag
 have hsz : (ByteArray.mk m.toArray).size = m.length := by simp [ByteArray.size]
 refine Lib.wpList_append_text hgd s x 23 9 ho N 5 i Tryz.underlying23 Tryz.underlying9 hi hz h1 h2 v l.length (bvals l) hs W0 hb ⟨m.toArray⟩ hx (by rw [hsz]; omega) ?_
 intro v' w' ho'
 refine h v' w' ?_
 rw [zoi, hsz] at ho'
 unfold Buf
 rw [List.length_append]
 exact ho'
theorem zuw {ops : Array Oper} {rest : List Oper} {o : Oper} {a : Act} {w : World} {Q : Exit -> Act -> World -> Prop} (hgd : o.guard = none) (c : Operand) (ho : o.op = .makeSlice 23 (.const (.int .i64 0)) c)
  (N n : Nat) (W0 : World) (hb : Below N W0 w) (hN : N ≤ w.heap.size) (hc : a.eval c = .int .i64 n) (hn : n ≤ 10000000)
  (h : ∀ w', Buf N (.slice (some ⟨w.heap.size, 0, none⟩) 0 n) [] W0 w' -> wpList Tryz.prog ops Q rest (a.put o.dst (.slice (some ⟨w.heap.size, 0, none⟩) 0 n)) w') : wpList Tryz.prog ops Q (o :: rest) a w := by
 obtain ⟨i, hi, hz, h1, h2⟩ := zag
 refine wpList_make_own w hgd _ c 23 ho N 5 i (.int .u8 0) 1 Tryz.underlying23 hi hz h1 .i64 .i64 n n rfl hc rfl (by rw [h2]; omega) (by unfold maxLen; omega) hN ?_
 intro w' ho' hg
 exact h w' ⟨World.ownsRowF_of ho', hb.grown hg hN (fun k e => by cases e), Nat.le_trans hN hg.size⟩
theorem zcu {N : Nat} {v : Value} {l : V.Bs} {W0 w : World} (h : Buf N v l W0 w) (h0 : 0 < l.length) : (convert 23 9 v).run Tryz.prog w = .ok (.string ⟨l.toArray⟩) w := by
 obtain ⟨ho, _, _⟩ := h
 have hcs := fun (g : Nat) hg => ho.cells (g := g) hg
 rcases ho.2 with ⟨_, e⟩ | ⟨g, cap, cur, fz, rfl, _⟩
 ·omega
 ·have hc := hcs g rfl
  have r := run_convert_bytes_arg (P := Tryz.prog) w 23 5 Tryz.underlying23 Tryz.underlying5 g 0 l.length cap (l.map fun b => (b.toNat : Int)) (by simp) (fun i hi => by
    have hu : (bvals l)[i]? = some (.int .u8 ((l.map fun b => (b.toNat : Int)).getD i 0)) := by
      unfold bvals
      rw [List.getElem?_map, List.getElem?_eq_getElem (by omega), List.getD_eq_getElem?_getD, List.getElem?_map, List.getElem?_eq_getElem (by omega)]
      rfl
    have := hc i _ hu
    rw [show (⟨g, 0, none⟩ : Addr).add i = ⟨g, 0 + i, none⟩ by unfold Addr.add; split <;> simp_all] at this
    exact this) 9 Tryz.underlying9
  rw [r]
  congr 2
  apply jk
  rw [strOfNums_data, List.map_map]
  simp only [zaa]
  conv => rhs; rw [← List.map_id l]
  apply List.map_congr_left
  intro b _
  simp
theorem yb {o : Oper} {ev : Operand -> Value} {w : World} {x y : Operand} {s : ByteArray} {k : IntKind} {i : Int} {b : UInt8} (ho : o.op = .index 9 x y) (hx : ev x = .string s) (hy : ev y = .int k i) (h0 : 0 ≤ i) (hb : s.data.toList[i.toNat]? = some b) :
  (execOp ev o).run Tryz.prog w = .ok (.value (.int .u8 b.toNat)) w := by
 have h1 := (List.getElem?_eq_some_iff.1 hb).1
 have h2 : i.toNat < s.size := by rw [Array.length_toList] at h1; exact h1
 have he : s[i.toNat] = b := by
  rw [← (List.getElem?_eq_some_iff.1 hb).2]
  rfl
 have hr := run_index_string (P := Tryz.prog) w 9 s k i Tryz.underlying9
 rw [dif_pos ⟨h0, by omega⟩, he] at hr
 unfold execOp
 simp only [ho, hx, hy, Sem.run_bind, hr, Result.andThen_ok, Sem.run_pure]
theorem zu5 {o : Oper} {ev : Operand -> Value} {w : World} {x : Operand} {c : UInt8} (ho : o.op = .binOp .shr 5 x (.const (.int .u64 4)) 120) (hc : ev (.const (.int .u64 4)) = .int .u64 4) (hx : ev x = .int .u8 c.toNat) : (execOp ev o).run Tryz.prog w = .ok (.value (.int .u8 ((c.toNat / 16 : Nat) : Int))) w := by
 unfold execOp
 simp only [ho, hx, hc]
 go_simp
theorem and15 : ∀ n : Fin 256, bits BinOp.and .u8 (n.val : Int) 15 = (n.val : Int) % 16 := by decide +kernel
theorem zrd {o : Oper} {ev : Operand -> Value} {w : World} {x : Operand} {c : UInt8} (ho : o.op = .binOp .and 5 x (.const (.int .u8 15)) 5) (hc : ev (.const (.int .u8 15)) = .int .u8 15) (hx : ev x = .int .u8 c.toNat) : (execOp ev o).run Tryz.prog w = .ok (.value (.int .u8 ((c.toNat % 16 : Nat) : Int))) w := by
 unfold execOp
 simp only [ho, hx, hc]
 go_simp
 exact and15 ⟨c.toNat, c.toNat_lt⟩
theorem zgg {ops : Array Oper} {o : Oper} {a : Act} {w : World} {K : Act -> World -> Prop} {Q : Exit -> Act -> World -> Prop} {E : Prop} (hgd : o.guard = none) (e1 e2 e3 : Operand) (ho : o.op = .buildSlice 23 3 #[(0, e1), (1, e2), (2, e3)])
  (b1 b2 b3 : UInt8) (h1 : a.eval e1 = .int .u8 b1.toNat) (h2 : a.eval e2 = .int .u8 b2.toNat) (h3 : a.eval e3 = .int .u8 b3.toNat)
  (h : K (a.put o.dst (.slice (some ⟨w.heap.size, 0, none⟩) 3 3)) (w.alloc (.cells (bvals [b1, b2, b3]).toArray 5))) : if Region.wanted o (yielded ops a.tmps) = true then Oper.wp Tryz.prog o a w K Q else E := by
 rw [if_pos (by simp [Region.wanted, hgd])]
 obtain ⟨i, hi, hz, hs, hb⟩ := zag
 refine wp_buildSlice _ 5 3 _ ho (bvals [b1, b2, b3]).toArray i _ Tryz.underlying23 hi hz (by rw [hs]; decide) (by rw [hs]; decide) ?_ h
 have := Great.fill_whole (s := 1) (by decide) [Value.int .u8 b1.toNat, Value.int .u8 b2.toNat, Value.int .u8 b3.toNat] ((Array.range (3 * i.size)).map ((Value.int .u8 0).cells[· % (Value.int .u8 0).cells.size]!)) (fun v hv => by
   rcases List.mem_cons.1 hv with rfl | hv
   · rfl
   · rcases List.mem_cons.1 hv with rfl | hv
     · rfl
     · rw [List.mem_singleton.1 hv]; rfl) (by rw [hs]; simp)
 rw [hs] at this ⊢
 simp only [h1, h2, h3, List.map_toArray, List.map_cons, List.map_nil]
 exact this.trans (by simp [Value.cells, bvals])
theorem zk5 {ops : Array Oper} {o : Oper} {a : Act} {w : World} {K : Act -> World -> Prop} {Q : Exit -> Act -> World -> Prop} {E : Prop} (hgd : o.guard = none) (s x : Operand)
  (ho : o.op = .call { callee := .builtin .append, args := #[s, x], argTypes := #[23, 23] })
  (N : Nat) (v : Value) (l : V.Bs) (W0 : World) (hs : a.eval s = v) (hb : Buf N v l W0 w) (b cap : Nat) (m : V.Bs) (hx : a.eval x = .slice (some ⟨b, 0, none⟩) m.length cap) (hc : ∀ j u, (bvals m)[j]? = some u -> w.cell? ⟨b, j, none⟩ = some u) (hl : l.length + m.length ≤ 10000000)
  (h : ∀ v' w', Buf N v' (l ++ m) W0 w' -> K (a.put o.dst v') w') : if Region.wanted o (yielded ops a.tmps) = true then Oper.wp Tryz.prog o a w K Q else E := by
 rw [if_pos (by simp [Region.wanted, hgd])]
 obtain ⟨i, hi, hz, h1, h2⟩ := zag
 obtain ⟨v', w', hr, ho', hg, _⟩ := run_append_ownF (P := Tryz.prog) w N 23 o.type 5 i (.int .u8 0) 1 1 Tryz.underlying23 hi hz h1 h2 rfl (by decide) v l.length (bvals l) hb.1 ⟨b, 0, none⟩ m.length cap (bvals m) (by rw [zhj]; omega) (by
   intro j u hj
   have := hc j u hj
   rw [Addr.add_mid, Nat.zero_add]
   exact this) (by
   intro u hu
   unfold bvals at hu
   obtain ⟨c, _, rfl⟩ := List.mem_map.1 hu
   rfl) (by unfold maxLen; omega) (by omega) hb.2.2
 unfold Oper.wp execOp
 simp only [ho, resolve, invoke, builtin, Sem.run_bind, Sem.run_pure, Result.andThen_ok, List.map_toArray, List.map_cons, List.map_nil, hs, hx, hr]
 refine h v' w' ?_
 have := hb.grown ho' hg
 rw [zf2] at this
 unfold Buf
 rw [List.length_append]
 exact this
theorem kx (m : V.Bs) (w : World) : ∀ j u, (bvals m)[j]? = some u -> (w.alloc (.cells (bvals m).toArray 5)).cell? ⟨w.heap.size, j, none⟩ = some u := fun j u h => by
 rw [World.cell?_alloc_new]
 simpa using h
theorem zws {P : Prop} (h : P := by
 have f4 : ¬ (s[k].toNat : Int) = 46 := by omega
 have f5 : ((s[k].toNat : Int) == 46) = false := by rw [zwi]; omega
 have f6 : ¬ (s[k].toNat : Int) = 95 := by omega
 have f7 : ((s[k].toNat : Int) == 95) = false := by rw [zwi]; omega
 have f8 : ¬ (s[k].toNat : Int) = 45 := by omega
 have f9 : ((s[k].toNat : Int) == 45) = false := by rw [zwi]; omega
 clear hc HNO HST
 go_wp2
 go_ret
 exact ⟨zc HP.out.symm, rfl⟩) : P := h
theorem zw3 {P : Prop} (h : P := by
 have f4 : ¬ (s[k].toNat : Int) = 46 := by omega
 have f5 : ((s[k].toNat : Int) == 46) = false := by rw [zwi]; omega
 have f6 : ¬ (s[k].toNat : Int) = 95 := by omega
 have f7 : ((s[k].toNat : Int) == 95) = false := by rw [zwi]; omega
 have f8 : ¬ (s[k].toNat : Int) = 45 := by omega
 have f9 : ((s[k].toNat : Int) == 45) = false := by rw [zwi]; omega
 clear hc HNO HST
 go_wp2
 go_round
 case rel => exact ⟨k + 1, by omega, by go_num, HY.out⟩
 case measure => simp [intOf]; omega) : P := h
theorem zxj {P : Prop} (h : P := by
 clear hc HNO HST
 go_wp2
 go_round
 case rel => exact ⟨k + 1, by omega, by go_num, HY.out⟩
 case measure => simp [intOf]; omega) : P := h
theorem zyg {P : Prop} (h : P := by
 clear hc HNO HST
 go_wp2
 go_ret
 exact ⟨zc HP.out.symm, rfl⟩) : P := h
theorem zyw {P : Prop} (h : P := by
 go_wp2
 go_ret
 exact ⟨zc HP.out.symm, rfl⟩) : P := h
theorem zqw (s : ByteArray) (w : World) (hs : s.size ≤ maxLen) : Calls Tryz.prog 59 #[.string s] w fun e w' => e = .returned (.bool (V.xu s.data.toList)) /\ w' = w := by
 have hl := zf s
 unfold maxLen at hs
 by_cases h0 : s.size = 0
 ·have hs0 : s = ⟨#[]⟩ := jk (by rw [List.length_eq_zero_iff.1 (by omega : s.data.toList.length = 0)])
  subst hs0
  go_enter Tryz.func59, Tryz.ntmps59
  go_wp2
  go_ret
  exact ⟨rfl, rfl⟩
 have q0 : ¬ (s.size : Int) < 1 := by omega
 have hne : s.data.toList ≠ [] := fun e => by rw [e] at hl; exact h0 hl.symm
 have hse : s.toList.isEmpty = false := by
  rw [Lib.toList_data]
  cases hq : s.data.toList with
  | nil => exact absurd hq hne
  | cons c r => rfl
 have hse2 : (s.data.toList == []) = false := by rw [zwi]; exact hne
 clear hne
 by_cases h64 : 64 < s.size
 ·have HP : Hid (V.xu s.data.toList = false) := zwe (decide_eq_false fun hp => by have := hp.2.1; omega)
  have q1 : (64 : Int) < (s.size : Int) := by omega
  clear hl
  go_enter Tryz.func59, Tryz.ntmps59
  exact zyw
 have q1 : ¬ (64 : Int) < (s.size : Int) := by omega
 have HL := zwe hl
 clear hl
 go_enter Tryz.func59, Tryz.ntmps59
 go_wp2
 go_loop [3] (fun iv => ∃ k : Nat, k ≤ s.size /\ iv = .int .i64 k /\ ∀ j (h : j < s.data.toList.length), j < k -> V.nmAt j s.data.toList[j] = true) (fun iv => s.size - (intOf iv).toNat)
 case atStart => exact ⟨0, Nat.zero_le _, rfl, fun j _ h => absurd h (Nat.not_lt_zero _)⟩
 case round =>
  obtain ⟨k, hk, rfl, hat⟩ := hrel
  have HAT := zwe hat
  clear hat
  by_cases hlt : k < s.size
  ·have he : s.data.toList[k]'(by have := HL.out; omega) = s[k] := by simp; rfl
   have HNO := zwe (V.zp9 (s := s.data.toList) (k := k) (by have := HL.out; omega))
   have HST : Hid (V.nmAt k s[k] = true -> ∀ j (h : j < s.data.toList.length), j < k + 1 -> V.nmAt j s.data.toList[j] = true) := zwe (fun hy j h hj => by
     by_cases hjk : j < k
     · exact HAT.out j h hjk
     · obtain rfl : j = k := by omega
       rw [he]; exact hy)
   rw [he] at HNO
   clear he HAT
   have i1 : (0 : Int) ≤ (k : Int) := by omega
   have i2 : (k : Int) < (s.size : Int) := by omega
   have wr1 : IntKind.i64.wrap ((k : Int) + 1) = (k : Int) + 1 := IntWalk.i64_in _ (by omega)
   have hcl : (s[k].toNat < 48 /\ s[k].toNat ≠ 45 /\ s[k].toNat ≠ 46) ∨ (s[k].toNat = 45) ∨ (s[k].toNat = 46) ∨ (48 ≤ s[k].toNat /\ s[k].toNat ≤ 57) ∨ (58 ≤ s[k].toNat /\ s[k].toNat < 97 /\ s[k].toNat ≠ 95) ∨ (s[k].toNat = 95) ∨ (97 ≤ s[k].toNat /\ s[k].toNat ≤ 122) ∨ (123 ≤ s[k].toNat) := by omega
   rcases hcl with hc | hc | hc | hc | hc | hc | hc | hc
   ·have HP := zwe (HNO.out (by simp [V.nmAt, V.nmA, V.nmP]; omega))
    by_cases hk0 : 0 < k
    ·have j0 : (0 : Int) < (k : Int) := by omega
     have f0 : ¬ (97 : Int) ≤ (s[k].toNat : Int) := by omega
     have f1 : (s[k].toNat : Int) ≤ 122 := by omega
     have f2 : ¬ (48 : Int) ≤ (s[k].toNat : Int) := by omega
     have f3 : (s[k].toNat : Int) ≤ 57 := by omega
     exact zws
    ·have j0 : ¬ (0 : Int) < (k : Int) := by omega
     have f0 : ¬ (97 : Int) ≤ (s[k].toNat : Int) := by omega
     have f1 : (s[k].toNat : Int) ≤ 122 := by omega
     have f2 : ¬ (48 : Int) ≤ (s[k].toNat : Int) := by omega
     have f3 : (s[k].toNat : Int) ≤ 57 := by omega
     exact zws
   ·by_cases hk0 : 0 < k
    ·have HY := zwe (HST.out (by simp [V.nmAt, V.nmP, hc, hk0]))
     have j0 : (0 : Int) < (k : Int) := by omega
     have f0 : ¬ (97 : Int) ≤ (s[k].toNat : Int) := by omega
     have f1 : (s[k].toNat : Int) ≤ 122 := by omega
     have f2 : ¬ (48 : Int) ≤ (s[k].toNat : Int) := by omega
     have f3 : (s[k].toNat : Int) ≤ 57 := by omega
     have f4 : ¬ (s[k].toNat : Int) = 46 := by omega
     have f5 : ((s[k].toNat : Int) == 46) = false := by rw [zwi]; omega
     have f6 : ¬ (s[k].toNat : Int) = 95 := by omega
     have f7 : ((s[k].toNat : Int) == 95) = false := by rw [zwi]; omega
     have f8 : (s[k].toNat : Int) = 45 := by omega
     exact zxj
    ·have HP := zwe (HNO.out (by simp [V.nmAt, V.nmA, hc, hk0]))
     have j0 : ¬ (0 : Int) < (k : Int) := by omega
     have f0 : ¬ (97 : Int) ≤ (s[k].toNat : Int) := by omega
     have f1 : (s[k].toNat : Int) ≤ 122 := by omega
     have f2 : ¬ (48 : Int) ≤ (s[k].toNat : Int) := by omega
     have f3 : (s[k].toNat : Int) ≤ 57 := by omega
     have f4 : ¬ (s[k].toNat : Int) = 46 := by omega
     have f5 : ((s[k].toNat : Int) == 46) = false := by rw [zwi]; omega
     have f6 : ¬ (s[k].toNat : Int) = 95 := by omega
     have f7 : ((s[k].toNat : Int) == 95) = false := by rw [zwi]; omega
     have f8 : (s[k].toNat : Int) = 45 := by omega
     exact zyg
   ·by_cases hk0 : 0 < k
    ·have HY := zwe (HST.out (by simp [V.nmAt, V.nmP, hc, hk0]))
     have j0 : (0 : Int) < (k : Int) := by omega
     have f0 : ¬ (97 : Int) ≤ (s[k].toNat : Int) := by omega
     have f1 : (s[k].toNat : Int) ≤ 122 := by omega
     have f2 : ¬ (48 : Int) ≤ (s[k].toNat : Int) := by omega
     have f3 : (s[k].toNat : Int) ≤ 57 := by omega
     have f4 : (s[k].toNat : Int) = 46 := by omega
     have f5 : ¬ (s[k].toNat : Int) = 95 := by omega
     have f6 : ((s[k].toNat : Int) == 95) = false := by rw [zwi]; omega
     have f7 : ¬ (s[k].toNat : Int) = 45 := by omega
     have f8 : ((s[k].toNat : Int) == 45) = false := by rw [zwi]; omega
     exact zxj
    ·have HP := zwe (HNO.out (by simp [V.nmAt, V.nmA, hc, hk0]))
     have j0 : ¬ (0 : Int) < (k : Int) := by omega
     have f0 : ¬ (97 : Int) ≤ (s[k].toNat : Int) := by omega
     have f1 : (s[k].toNat : Int) ≤ 122 := by omega
     have f2 : ¬ (48 : Int) ≤ (s[k].toNat : Int) := by omega
     have f3 : (s[k].toNat : Int) ≤ 57 := by omega
     have f4 : (s[k].toNat : Int) = 46 := by omega
     have f5 : ¬ (s[k].toNat : Int) = 95 := by omega
     have f6 : ((s[k].toNat : Int) == 95) = false := by rw [zwi]; omega
     have f7 : ¬ (s[k].toNat : Int) = 45 := by omega
     have f8 : ((s[k].toNat : Int) == 45) = false := by rw [zwi]; omega
     exact zyg
   ·have HY := zwe (HST.out (by simp [V.nmAt, V.nmA, hc]))
    have f0 : ¬ (97 : Int) ≤ (s[k].toNat : Int) := by omega
    have f1 : (s[k].toNat : Int) ≤ 122 := by omega
    have f2 : (48 : Int) ≤ (s[k].toNat : Int) := by omega
    have f3 : (s[k].toNat : Int) ≤ 57 := by omega
    exact zw3
   ·have HP := zwe (HNO.out (by simp [V.nmAt, V.nmA, V.nmP]; omega))
    by_cases hk0 : 0 < k
    ·have j0 : (0 : Int) < (k : Int) := by omega
     have f0 : ¬ (97 : Int) ≤ (s[k].toNat : Int) := by omega
     have f1 : (s[k].toNat : Int) ≤ 122 := by omega
     have f2 : (48 : Int) ≤ (s[k].toNat : Int) := by omega
     have f3 : ¬ (s[k].toNat : Int) ≤ 57 := by omega
     exact zws
    ·have j0 : ¬ (0 : Int) < (k : Int) := by omega
     have f0 : ¬ (97 : Int) ≤ (s[k].toNat : Int) := by omega
     have f1 : (s[k].toNat : Int) ≤ 122 := by omega
     have f2 : (48 : Int) ≤ (s[k].toNat : Int) := by omega
     have f3 : ¬ (s[k].toNat : Int) ≤ 57 := by omega
     exact zws
   ·by_cases hk0 : 0 < k
    ·have HY := zwe (HST.out (by simp [V.nmAt, V.nmP, hc, hk0]))
     have j0 : (0 : Int) < (k : Int) := by omega
     have f0 : ¬ (97 : Int) ≤ (s[k].toNat : Int) := by omega
     have f1 : (s[k].toNat : Int) ≤ 122 := by omega
     have f2 : (48 : Int) ≤ (s[k].toNat : Int) := by omega
     have f3 : ¬ (s[k].toNat : Int) ≤ 57 := by omega
     have f4 : ¬ (s[k].toNat : Int) = 46 := by omega
     have f5 : ((s[k].toNat : Int) == 46) = false := by rw [zwi]; omega
     have f6 : (s[k].toNat : Int) = 95 := by omega
     have f7 : ¬ (s[k].toNat : Int) = 45 := by omega
     have f8 : ((s[k].toNat : Int) == 45) = false := by rw [zwi]; omega
     exact zxj
    ·have HP := zwe (HNO.out (by simp [V.nmAt, V.nmA, hc, hk0]))
     have j0 : ¬ (0 : Int) < (k : Int) := by omega
     have f0 : ¬ (97 : Int) ≤ (s[k].toNat : Int) := by omega
     have f1 : (s[k].toNat : Int) ≤ 122 := by omega
     have f2 : (48 : Int) ≤ (s[k].toNat : Int) := by omega
     have f3 : ¬ (s[k].toNat : Int) ≤ 57 := by omega
     have f4 : ¬ (s[k].toNat : Int) = 46 := by omega
     have f5 : ((s[k].toNat : Int) == 46) = false := by rw [zwi]; omega
     have f6 : (s[k].toNat : Int) = 95 := by omega
     have f7 : ¬ (s[k].toNat : Int) = 45 := by omega
     have f8 : ((s[k].toNat : Int) == 45) = false := by rw [zwi]; omega
     exact zyg
   ·have HY := zwe (HST.out (by simp [V.nmAt, V.nmA, hc]))
    have f0 : (97 : Int) ≤ (s[k].toNat : Int) := by omega
    have f1 : (s[k].toNat : Int) ≤ 122 := by omega
    have f2 : (48 : Int) ≤ (s[k].toNat : Int) := by omega
    have f3 : ¬ (s[k].toNat : Int) ≤ 57 := by omega
    exact zw3
   ·have HP := zwe (HNO.out (by simp [V.nmAt, V.nmA, V.nmP]; omega))
    by_cases hk0 : 0 < k
    ·have j0 : (0 : Int) < (k : Int) := by omega
     have f0 : (97 : Int) ≤ (s[k].toNat : Int) := by omega
     have f1 : ¬ (s[k].toNat : Int) ≤ 122 := by omega
     have f2 : (48 : Int) ≤ (s[k].toNat : Int) := by omega
     have f3 : ¬ (s[k].toNat : Int) ≤ 57 := by omega
     exact zws
    ·have j0 : ¬ (0 : Int) < (k : Int) := by omega
     have f0 : (97 : Int) ≤ (s[k].toNat : Int) := by omega
     have f1 : ¬ (s[k].toNat : Int) ≤ 122 := by omega
     have f2 : (48 : Int) ≤ (s[k].toNat : Int) := by omega
     have f3 : ¬ (s[k].toNat : Int) ≤ 57 := by omega
     exact zws
  ·obtain rfl : k = s.size := by omega
   have HP : Hid (V.xu s.data.toList = true) := zwe (decide_eq_true ⟨by have := HL.out; omega, by have := HL.out; omega, fun j h => HAT.out j h (by have := HL.out; omega)⟩)
   exact zyw
theorem zyk {P : Prop} (h : P := by
 go_enter Tryz.func39, Tryz.ntmps39
 go_wp2
 go_ret
 exact ⟨zc HP.out.symm, rfl⟩) : P := h
theorem z1i {P : Prop} (h : P := by
 rcases Nat.eq_zero_or_pos k with e | e
 · have := HZK.out e; omega
 · exact e) : P := h
theorem zo5 (s : ByteArray) (w : World) (hs : s.size ≤ maxLen) : Calls Tryz.prog 39 #[.string s] w fun e w' => e = .returned (.bool (V.xu s.data.toList)) /\ w' = w := by
 have hl := zf s
 unfold maxLen at hs
 by_cases h0 : s.size = 0
 ·have hs0 : s = ⟨#[]⟩ := jk (by rw [List.length_eq_zero_iff.1 (by omega : s.data.toList.length = 0)])
  subst hs0
  go_enter Tryz.func39, Tryz.ntmps39
  go_wp2
  go_ret
  exact ⟨rfl, rfl⟩
 have q0 : ¬ (s.size : Int) < 1 := by omega
 have hne : s.data.toList ≠ [] := fun e => by rw [e] at hl; exact h0 hl.symm
 have hse : s.toList.isEmpty = false := by
  rw [Lib.toList_data]
  cases hq : s.data.toList with
  | nil => exact absurd hq hne
  | cons c r => rfl
 have hse2 : (s.data.toList == []) = false := by rw [zwi]; exact hne
 clear hne
 by_cases h64 : 64 < s.size
 ·have HP : Hid (V.xu s.data.toList = false) := zwe (decide_eq_false fun hp => by have := hp.2.1; omega)
  have q1 : (64 : Int) < (s.size : Int) := by omega
  clear hl
  exact zyk
 have q1 : ¬ (64 : Int) < (s.size : Int) := by omega
 have HL := zwe hl
 have i00 : 0 < s.size := by omega
 have he0 : s.data.toList[0]'(by omega) = s[0]'i00 := by simp; rfl
 have HN0 := zwe (V.zp9 (s := s.data.toList) (k := 0) (by omega))
 rw [he0] at HN0
 clear he0 hl
 have i0 : (0 : Int) < (s.size : Int) := by omega
 by_cases z46 : (s[0]'i00).toNat = 46
 ·have HP : Hid (V.xu s.data.toList = false) := zwe (HN0.out (by simp [V.nmAt, V.nmA, V.nmP, z46]))
  have y46 : ((s[0]'i00).toNat : Int) = 46 := by omega
  clear z46
  exact zyk
 have y46 : ¬ ((s[0]'i00).toNat : Int) = 46 := by omega
 have x46 : (((s[0]'i00).toNat : Int) == 46) = false := by rw [zwi]; exact y46
 by_cases z95 : (s[0]'i00).toNat = 95
 ·have HP : Hid (V.xu s.data.toList = false) := zwe (HN0.out (by simp [V.nmAt, V.nmA, V.nmP, z95]))
  have y95 : ((s[0]'i00).toNat : Int) = 95 := by omega
  clear z95
  exact zyk
 have y95 : ¬ ((s[0]'i00).toNat : Int) = 95 := by omega
 have x95 : (((s[0]'i00).toNat : Int) == 95) = false := by rw [zwi]; exact y95
 by_cases z45 : (s[0]'i00).toNat = 45
 ·have HP : Hid (V.xu s.data.toList = false) := zwe (HN0.out (by simp [V.nmAt, V.nmA, V.nmP, z45]))
  have y45 : ((s[0]'i00).toNat : Int) = 45 := by omega
  clear z45
  exact zyk
 have y45 : ¬ ((s[0]'i00).toNat : Int) = 45 := by omega
 have x45 : (((s[0]'i00).toNat : Int) == 45) = false := by rw [zwi]; exact y45
 have HZ := zwe (And.intro z46 (And.intro z95 z45))
 clear z46 z95 z45 HN0
 go_enter Tryz.func39, Tryz.ntmps39
 go_wp2
 go_loop [3] (fun iv => ∃ k : Nat, k ≤ s.size /\ iv = .int .i64 k /\ ∀ j (h : j < s.data.toList.length), j < k -> V.nmAt j s.data.toList[j] = true) (fun iv => s.size - (intOf iv).toNat)
 case atStart => exact ⟨0, Nat.zero_le _, rfl, fun j _ h => absurd h (Nat.not_lt_zero _)⟩
 case round =>
  obtain ⟨k, hk, rfl, hat⟩ := hrel
  have HAT := zwe hat
  clear hat
  by_cases hlt : k < s.size
  ·have he : s.data.toList[k]'(by have := HL.out; omega) = s[k] := by simp; rfl
   have HNO := zwe (V.zp9 (s := s.data.toList) (k := k) (by have := HL.out; omega))
   have HST : Hid (V.nmAt k s[k] = true -> ∀ j (h : j < s.data.toList.length), j < k + 1 -> V.nmAt j s.data.toList[j] = true) := zwe (fun hy j h hj => by
     by_cases hjk : j < k
     · exact HAT.out j h hjk
     · obtain rfl : j = k := by omega
       rw [he]; exact hy)
   rw [he] at HNO
   clear he HAT
   have HZK : Hid (k = 0 -> s[k].toNat ≠ 46 /\ s[k].toNat ≠ 95 /\ s[k].toNat ≠ 45) := zwe (fun e => by subst e; exact HZ.out)
   have i1 : (0 : Int) ≤ (k : Int) := by omega
   have i2 : (k : Int) < (s.size : Int) := by omega
   have wr1 : IntKind.i64.wrap ((k : Int) + 1) = (k : Int) + 1 := IntWalk.i64_in _ (by omega)
   have hcl : (s[k].toNat < 48 /\ s[k].toNat ≠ 45 /\ s[k].toNat ≠ 46) ∨ (s[k].toNat = 45) ∨ (s[k].toNat = 46) ∨ (48 ≤ s[k].toNat /\ s[k].toNat ≤ 57) ∨ (58 ≤ s[k].toNat /\ s[k].toNat < 97 /\ s[k].toNat ≠ 95) ∨ (s[k].toNat = 95) ∨ (97 ≤ s[k].toNat /\ s[k].toNat ≤ 122) ∨ (123 ≤ s[k].toNat) := by omega
   rcases hcl with hc | hc | hc | hc | hc | hc | hc | hc
   ·have HP := zwe (HNO.out (by simp [V.nmAt, V.nmA, V.nmP]; omega))
    have f0 : ¬ (97 : Int) ≤ (s[k].toNat : Int) := by omega
    have f1 : (s[k].toNat : Int) ≤ 122 := by omega
    have f2 : ¬ (48 : Int) ≤ (s[k].toNat : Int) := by omega
    have f3 : (s[k].toNat : Int) ≤ 57 := by omega
    exact zws
   ·have HY := zwe (HST.out (by
      have hk0 : 0 < k := by
        exact z1i
      simp [V.nmAt, V.nmP, hc, hk0]))
    have f0 : ¬ (97 : Int) ≤ (s[k].toNat : Int) := by omega
    have f1 : (s[k].toNat : Int) ≤ 122 := by omega
    have f2 : ¬ (48 : Int) ≤ (s[k].toNat : Int) := by omega
    have f3 : (s[k].toNat : Int) ≤ 57 := by omega
    have f4 : ¬ (s[k].toNat : Int) = 46 := by omega
    have f5 : ((s[k].toNat : Int) == 46) = false := by rw [zwi]; omega
    have f6 : ¬ (s[k].toNat : Int) = 95 := by omega
    have f7 : ((s[k].toNat : Int) == 95) = false := by rw [zwi]; omega
    have f8 : (s[k].toNat : Int) = 45 := by omega
    exact zxj
   ·have HY := zwe (HST.out (by
      have hk0 : 0 < k := by
        exact z1i
      simp [V.nmAt, V.nmP, hc, hk0]))
    have f0 : ¬ (97 : Int) ≤ (s[k].toNat : Int) := by omega
    have f1 : (s[k].toNat : Int) ≤ 122 := by omega
    have f2 : ¬ (48 : Int) ≤ (s[k].toNat : Int) := by omega
    have f3 : (s[k].toNat : Int) ≤ 57 := by omega
    have f4 : (s[k].toNat : Int) = 46 := by omega
    have f5 : ¬ (s[k].toNat : Int) = 95 := by omega
    have f6 : ((s[k].toNat : Int) == 95) = false := by rw [zwi]; omega
    have f7 : ¬ (s[k].toNat : Int) = 45 := by omega
    have f8 : ((s[k].toNat : Int) == 45) = false := by rw [zwi]; omega
    exact zxj
   ·have HY := zwe (HST.out (by simp [V.nmAt, V.nmA, hc]))
    have f0 : ¬ (97 : Int) ≤ (s[k].toNat : Int) := by omega
    have f1 : (s[k].toNat : Int) ≤ 122 := by omega
    have f2 : (48 : Int) ≤ (s[k].toNat : Int) := by omega
    have f3 : (s[k].toNat : Int) ≤ 57 := by omega
    exact zw3
   ·have HP := zwe (HNO.out (by simp [V.nmAt, V.nmA, V.nmP]; omega))
    have f0 : ¬ (97 : Int) ≤ (s[k].toNat : Int) := by omega
    have f1 : (s[k].toNat : Int) ≤ 122 := by omega
    have f2 : (48 : Int) ≤ (s[k].toNat : Int) := by omega
    have f3 : ¬ (s[k].toNat : Int) ≤ 57 := by omega
    exact zws
   ·have HY := zwe (HST.out (by
      have hk0 : 0 < k := by
        exact z1i
      simp [V.nmAt, V.nmP, hc, hk0]))
    have f0 : ¬ (97 : Int) ≤ (s[k].toNat : Int) := by omega
    have f1 : (s[k].toNat : Int) ≤ 122 := by omega
    have f2 : (48 : Int) ≤ (s[k].toNat : Int) := by omega
    have f3 : ¬ (s[k].toNat : Int) ≤ 57 := by omega
    have f4 : ¬ (s[k].toNat : Int) = 46 := by omega
    have f5 : ((s[k].toNat : Int) == 46) = false := by rw [zwi]; omega
    have f6 : (s[k].toNat : Int) = 95 := by omega
    have f7 : ¬ (s[k].toNat : Int) = 45 := by omega
    have f8 : ((s[k].toNat : Int) == 45) = false := by rw [zwi]; omega
    exact zxj
   ·have HY := zwe (HST.out (by simp [V.nmAt, V.nmA, hc]))
    have f0 : (97 : Int) ≤ (s[k].toNat : Int) := by omega
    have f1 : (s[k].toNat : Int) ≤ 122 := by omega
    have f2 : (48 : Int) ≤ (s[k].toNat : Int) := by omega
    have f3 : ¬ (s[k].toNat : Int) ≤ 57 := by omega
    exact zw3
   ·have HP := zwe (HNO.out (by simp [V.nmAt, V.nmA, V.nmP]; omega))
    have f0 : (97 : Int) ≤ (s[k].toNat : Int) := by omega
    have f1 : ¬ (s[k].toNat : Int) ≤ 122 := by omega
    have f2 : (48 : Int) ≤ (s[k].toNat : Int) := by omega
    have f3 : ¬ (s[k].toNat : Int) ≤ 57 := by omega
    exact zws
  ·obtain rfl : k = s.size := by omega
   have HP : Hid (V.xu s.data.toList = true) := zwe (decide_eq_true ⟨by have := HL.out; omega, by have := HL.out; omega, fun j h => HAT.out j h (by have := HL.out; omega)⟩)
   exact zyw
open Go.RowKit
theorem zgh (l : V.Bs) (c : UInt8) : (0 ≤ Lib.indexByte l c) ↔ c ∈ l := decide_eq_decide.1 (V.yg l c)
theorem zdd {s : V.Bs} (h : s.length < 1 ∨ 200 < s.length) : V.xg s = false := by
 unfold V.xg
 rcases h with h | h
 ·have : decide (1 ≤ s.length) = false := decide_eq_false (by omega)
  rw [this]; rfl
 ·have : decide (s.length ≤ 200) = false := decide_eq_false (by omega)
  rw [this]; simp
theorem zni {s : V.Bs} (h : (0 : UInt8) ∈ s) : V.xg s = false := by
 unfold V.xg; simp [h]
theorem znq {s : V.Bs} (h1 : 1 ≤ s.length) (h2 : s.length ≤ 200) (h3 : (0 : UInt8) ∉ s) : V.xg s = V.wi s := by
 unfold V.xg; simp [h1, h2, h3]
theorem zzi {P : Prop} (h : P := by
 have HE := zwe e
 clear HD e
 go_wp2
 go_ret
 refine ⟨zc ?_, HB1.out⟩
 rw [HP.out, if_pos (by trivial), HC.out, HE.out]
 cases more <;> rfl) : P := h
theorem z1d {P : Prop} (h : P := by
 go_enter Tryz.func90, Tryz.ntmps90
 go_wp2
 go_ret
 exact ⟨zc HR.out.symm, zwh _ _⟩) : P := h
theorem path_any (s : ByteArray) (w : World) (hm : zg w) (hs : s.size ≤ maxLen) :
  Calls Tryz.prog 90 #[.string s] w fun e w' => e = .returned (.bool (V.xg s.data.toList)) /\ Below w.heap.size w w' := by
 have HM := zwe hm
 unfold maxLen at hs
 clear hm
 by_cases h1 : s.size < 1
 ·have HR := zwe (zdd (s := s.data.toList) (.inl (by rw [zf]; exact h1)))
  exact z1d
 ·by_cases h2 : 200 < s.size
  ·have HR := zwe (zdd (s := s.data.toList) (.inr (by rw [zf]; exact h2)))
   exact z1d
  ·have h1' : 1 ≤ s.size := by omega
   have h2' : s.size ≤ 200 := by omega
   clear h1 h2
   by_cases hz : (0 : UInt8) ∈ s.data.toList
   ·have HR := zwe (zni hz)
    have HI : 0 ≤ Lib.indexByte s.data.toList 0 := (zgh s.data.toList 0).2 hz
    clear hz
    go_enter Tryz.func90, Tryz.ntmps90
    go_wp2_with fail
    refine (Tryz.strings_IndexByte s 0 _).mono ?_
    rintro e w' ⟨rfl, rfl⟩
    rw [show ((0 : Int).toNat.toUInt8) = (0 : UInt8) from rfl]
    generalize Lib.indexByte s.data.toList 0 = ib at *
    go_wp2
    go_ret
    exact ⟨zc HR.out.symm, zwh _ _⟩
   ·have HR := zwe (znq (s := s.data.toList) (by rw [zf]; exact h1') (by rw [zf]; exact h2') hz)
    have HI : ¬ 0 ≤ Lib.indexByte s.data.toList 0 := fun g => hz ((zgh s.data.toList 0).1 g)
    clear hz
    go_enter Tryz.func90, Tryz.ntmps90
    go_wp2_with fail
    refine (Tryz.strings_IndexByte s 0 _).mono ?_
    rintro e w' ⟨rfl, rfl⟩
    rw [show ((0 : Int).toNat.toUInt8) = (0 : UInt8) from rfl]
    generalize Lib.indexByte s.data.toList 0 = ib at *
    go_wp2
    go_loopw [0, 3] (fun sv mo wr => ∃ (x : ByteArray) (more : Bool), sv = .string x /\ mo = .bool more /\ x.size ≤ s.size /\ V.xg s.data.toList = (if more then V.wi x.data.toList else true) /\ Below w'.heap.size w' wr) (fun sv mo _ => (match sv with | .string x => x.size | _ => 0) + (match mo with | .bool true => 1 | _ => 0))
    case atStart => exact ⟨s, true, rfl, rfl, zwg _, HR.out, zwh _ _⟩
    case round =>
     obtain ⟨x, more, rfl, rfl, hx, hp, hb⟩ := hrel
     have HB := zwe hb
     have HP := zwe hp
     clear hb hp
     rcases more with _ | _
     ·go_wp2
      go_ret
      exact ⟨zc HP.out.symm, HB.out⟩
     ·have hcl := uo 47 x.data.toList
      have HC := zwe (V.zv7 x.data.toList)
      have HD := zwe (V.zgt (V.cut1 47 x.data.toList).1)
      have HS : Hid ((V.cut1 47 x.data.toList).2.2 = true -> (V.cut1 47 x.data.toList).2.1.length < x.size) := zwe (fun h => by
        have := congrArg List.length (V.zok 47 x.data.toList h)
        rw [zf] at this
        simp at this; omega)
      rw [zf] at hcl
      go_wp2_with fail
      refine (zdm x 47 _ (HM.out.below HB.out) (by omega)).mono ?_
      rintro e w1 ⟨rfl, hb1⟩
      have HB1 := zwf HB hb1
      clear hb1
      generalize (V.cut1 47 x.data.toList).1 = p at *
      generalize (V.cut1 47 x.data.toList).2.1 = q at *
      generalize (V.cut1 47 x.data.toList).2.2 = more at *
      rcases HD.out with ⟨rfl, e⟩ | ⟨rfl, e⟩ | ⟨rfl, e⟩ | ⟨e1, e2, e3, e⟩
      ·exact zzi
      ·exact zzi
      ·exact zzi
      ·have HE := zwe e
       clear HD e
       have HT : Hid (V.xg s.data.toList = if more then V.wi q else true) := zwe (by
         rw [HP.out, if_pos (by trivial), HC.out, HE.out]; cases more <;> rfl)
       clear HC HP
       go_wp2
       go_roundw
       case rel => exact ⟨⟨q.toArray⟩, more, rfl, rfl, by show q.toArray.size ≤ _; simp; omega, by rw [zaa]; exact HT.out, HB1.out⟩
       case measure =>
        have hq : (⟨q.toArray⟩ : ByteArray).size = q.length := by show q.toArray.size = _; simp
        have := HS.out
        rcases more with _ | _
        ·simp [hq]; omega
        ·have := this rfl
         simp [hq]; omega
theorem z0c {P : Prop} (h : P := by
 have HE := zwe (HIn.out e)
 clear HD e
 go_wp2
 go_ret
 exact ⟨zc (by rw [HA.out, HE.out]), HB1.out⟩) : P := h
theorem z0t {P : Prop} (h : P := by
 go_enter Tryz.func40, Tryz.ntmps40
 go_wp2
 go_ret
 exact ⟨zc HR.out.symm, zwh _ _⟩) : P := h
theorem zvy (s : ByteArray) (w : World) (hm : zg w) (hs : s.size ≤ maxLen) :
  Calls Tryz.prog 40 #[.string s] w fun e w' => e = .returned (.bool (V.xg s.data.toList)) /\ Below w.heap.size w w' := by
 have HM := zwe hm
 unfold maxLen at hs
 clear hm
 by_cases h1 : s.size < 1
 ·have HR := zwe (zdd (s := s.data.toList) (.inl (by rw [zf]; exact h1)))
  have he : s = ⟨#[]⟩ := jk (by
    have : s.data.toList = [] := List.eq_nil_of_length_eq_zero (by rw [zf]; omega)
    rw [this])
  subst he
  exact z0t
 ·have hne : s.toList.isEmpty = false := by
   rw [Lib.toList_data]
   rcases hd : s.data.toList with _ | ⟨c, r⟩
   ·have := zf s; rw [hd] at this; simp at this; omega
   ·rfl
  have hne' : ¬ s.toList = [] := by simpa using hne
  by_cases h2 : 200 < s.size
  ·have HR := zwe (zdd (s := s.data.toList) (.inr (by rw [zf]; exact h2)))
   exact z0t
  ·have h1' : 1 ≤ s.size := by omega
   have h2' : s.size ≤ 200 := by omega
   clear h1 h2
   go_enter Tryz.func40, Tryz.ntmps40
   go_wp2
   go_loop [3] (fun i => ∃ k : Nat, k ≤ s.size /\ i = .int .i64 k /\ (s.data.toList.take k).all (fun c => c != 0) = true) (fun i => s.size - (intOf i).toNat)
   case atStart => exact ⟨0, Nat.zero_le _, rfl, rfl⟩
   case round =>
    obtain ⟨k, hk, rfl, hp⟩ := hrel
    have HP := zwe hp
    clear hp
    by_cases hlt : k < s.size
    ·have hl : k < s.data.toList.length := by rw [zf]; exact hlt
     have HT := zwe (V.zc1 (p := fun c => c != 0) hl)
     have he : s.data.toList[k] = s[k] := by simp; rfl
     by_cases h0 : s[k] = 0
     ·have HR := zwe (zni (s := s.data.toList) (by rw [← h0, ← he]; exact List.getElem_mem _))
      have h0' : ((s[k]).toNat : Int) = 0 := by rw [h0]; rfl
      clear he
      go_wp2
      go_ret
      exact ⟨zc HR.out.symm, zwh _ _⟩
     ·have h0' : ¬ ((s[k]).toNat : Int) = 0 := fun e => h0 (UInt8.toNat_inj.1 (show (s[k]).toNat = 0 by omega))
      have HN : Hid ((s[k] != 0) = true) := zwe (by simpa using h0)
      have HE := zwe he
      clear he
      go_wp2
      go_round
      case rel => exact ⟨k + 1, by omega, by go_num, by rw [HT.out, HP.out, HE.out, HN.out]; rfl⟩
      case measure => simp [intOf]; omega
    ·have hz : (0 : UInt8) ∉ s.data.toList := by
      have hp := HP.out
      rw [List.take_of_length_le (by rw [zf]; omega), List.all_eq_true] at hp
      intro g
      have := hp 0 g
      simp at this
     have HR := zwe (znq (s := s.data.toList) (by rw [zf]; exact h1') (by rw [zf]; exact h2') hz)
     clear hz HP
     go_wp2_with fail
     refine (kp s 47 _ HM.out (by omega)).mono ?_
     rintro e w1 ⟨rfl, hw1⟩
     have hs1 := Strs.split w (V.zd 47 s.data.toList) 9
     rw [← hw1] at hs1
     have hb1 : Below w.heap.size w w1 := by rw [hw1]; exact (zwh _ w).alloc (zwg _) _
     have HB1 := zwe hb1
     have HS := zwe hs1
     have HA : Hid (V.xg s.data.toList = (V.zd 47 s.data.toList).all V.vh) := HR
     have hnl : (V.zd 47 s.data.toList).length ≤ 201 := by have := jn 47 s.data.toList; rw [zf] at this; omega
     clear hw1 hs1 hb1
     generalize V.zd 47 s.data.toList = P at *
     go_wp2
     go_loop [5] (fun i => ∃ k : Nat, k ≤ P.length /\ i = .int .i64 k /\ (P.take k).all V.vh = true) (fun i => P.length - (intOf i).toNat)
     case atStart => exact ⟨0, Nat.zero_le _, rfl, rfl⟩
     case round =>
      obtain ⟨k, hk, rfl, hp⟩ := hrel
      have HP := zwe hp
      clear hp
      by_cases hlt : k < P.length
      ·obtain ⟨b, off, e, _, hcell⟩ := HS.out.at k hlt
       cases e
       rw [Nat.zero_add] at hcell
       have HT := zwe (zer (p := V.vh) hlt)
       have hg : P.getD k [] = P[k] := by rw [List.getD_eq_getElem?_getD, List.getElem?_eq_getElem hlt]; rfl
       rw [hg] at hcell
       have HIn : Hid (V.vh P[k] = false -> P.all V.vh = false) := zwe fun h => by
        rw [← Bool.not_eq_true, List.all_eq_true]
        intro g
        rw [g _ (List.getElem_mem hlt)] at h; cases h
       have HD := zwe (V.zgt P[k])
       generalize P[k] = p at *
       clear hg
       rcases HD.out with ⟨rfl, e⟩ | ⟨rfl, e⟩ | ⟨rfl, e⟩ | ⟨e1, e2, e3, e⟩
       ·exact z0c
       ·exact z0c
       ·exact z0c
       ·have HE := zwe e
        clear HD e
        go_wp2
        go_round
        case rel => exact ⟨k + 1, by omega, by go_num, by rw [HT.out, HP.out, HE.out]; rfl⟩
        case measure => simp [intOf]; omega
      ·have hall := HP.out
       rw [List.take_of_length_le (by omega)] at hall
       have HL := zwe hall
       clear hall
       go_wp2
       go_ret
       exact ⟨zc (by rw [HA.out, HL.out]), HB1.out⟩
open Go.RowKit
theorem zs7 (n : Int) (x y : V.Bs) (c : Int) (w : World) (hm : zg w) (hn : V.scheme n = true) (hx : V.valid n x = true) (hy : V.valid n y = true) (hc : V.cmpV n x y = c) :
  Calls Tryz.prog 125 #[.int .i64 n, .string ⟨x.toArray⟩, .string ⟨y.toArray⟩] w fun e w' => e = .returned (.tuple #[.int .i64 c, .int .i64 0]) /\ Below w.heap.size w w' := by
 have l1 := V.vr hx
 have l2 := V.vr hy
 refine ztb n ⟨x.toArray⟩ ⟨y.toArray⟩ c 0 ?_ w hm (by show x.length ≤ _; unfold maxLen; omega) (by show y.length ≤ _; unfold maxLen; omega)
 simp only
 unfold V.qt
 rw [hn, hx, hy]
 simp only [Bool.not_true, Bool.false_eq_true, if_false, Bool.and_self, if_true, hc]
end Go.Proofs.YtcfbkcapbbhmpaaGreatDoor
