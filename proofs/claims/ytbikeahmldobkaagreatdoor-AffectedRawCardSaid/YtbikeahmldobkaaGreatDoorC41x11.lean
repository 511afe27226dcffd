/-
  Lemmas for the law.
-/
import Derived.Test.YtbikeahmldobkaaGreatDoorC41x08
import Derived.Test.YtbikeahmldobkaaGreatDoorC41x09
import Derived.Test.YtbikeahmldobkaaGreatDoorC41x06
import Derived.Test.YtbikeahmldobkaaGreatDoorC41x04
import Derived.Test.YtbikeahmldobkaaGreatDoorC41x10
import Derived.Deep.MidRow
import Derived.StillTailTactics
import Derived.Deep.Upon
import Derived.Great.BuildSlice
import Derived.DeepKeys5
import Derived.Laws.StructEq
import Derived.Maps.Own
set_option linter.all false
set_option maxRecDepth 100000
set_option maxHeartbeats 1600000
namespace Go.Proofs.YtbikeahmldobkaaGreatDoor
open Go.RowKit
theorem zk4 (k : Nat) (w : World) : (method (k + 1) 203 (.agg #[]) "admission/version.valid").run Tryz.prog w = .ok (227, .agg #[]) w := by kernel_rfl
theorem zka (k : Nat) (w : World) : (method (k + 1) 204 (.agg #[]) "admission/version.valid").run Tryz.prog w = .ok (253, .agg #[]) w := by kernel_rfl
theorem zk2 (k : Nat) (w : World) : (method (k + 1) 205 (.agg #[]) "admission/version.valid").run Tryz.prog w = .ok (265, .agg #[]) w := by kernel_rfl
theorem zqh {P : Prop} (h : P := by
 go_enter Tryz.func136, Tryz.ntmps136
 go_wp2
 go_ret
 exact ⟨rfl, rfl⟩) : P := h
theorem zee (w : World) : Calls Tryz.prog 136 #[.int .i64 1] w fun e w' => e = .returned (.iface 203 (.agg #[])) /\ w = w' := by
 exact zqh
theorem zeb (w : World) : Calls Tryz.prog 136 #[.int .i64 2] w fun e w' => e = .returned (.iface 204 (.agg #[])) /\ w = w' := by
 exact zqh
theorem zea (w : World) : Calls Tryz.prog 136 #[.int .i64 3] w fun e w' => e = .returned (.iface 205 (.agg #[])) /\ w = w' := by
 exact zqh
theorem zm9 (n : Int) (h1 : n ≠ 1) (h2 : n ≠ 2) (h3 : n ≠ 3) (w : World) : Calls Tryz.prog 136 #[.int .i64 n] w fun e w' => e = .returned .nilIface /\ w = w' := by
 have b1 : (n == 1) = false := by simpa using h1
 have b2 : (n == 2) = false := by simpa using h2
 have b3 : (n == 3) = false := by simpa using h3
 exact zqh
theorem zqn {P : Prop} (h : P := by
 rintro e w' ⟨rfl, rfl⟩
 go_wp2
 go_ret
 exact ⟨zf HF.out.symm, zpd _ _⟩) : P := h
theorem zr5 {P : Prop} (h : P := by
 rintro e w1 ⟨rfl, hb⟩
 go_wp2
 go_ret
 exact ⟨zf (by rw [HF.out]), hb⟩) : P := h
theorem zfb (s : ByteArray) (w : World) (hm : zm w) (hs : s.size ≤ maxLen) :
  Calls Tryz.prog 102 #[.int .i64 1, .string s] w fun e w' => e = .returned (.bool (V.valid 1 s.data.toList)) /\ Below w.heap.size w w' := by
 unfold maxLen at hs
 have hmeth := zk4
 by_cases h1 : 1 ≤ s.size
 ·have b1 : (1 : Int) ≤ (s.size : Int) := by omega
  by_cases h2 : s.size ≤ 64
  ·have HF : Hid (V.valid 1 s.data.toList = (V.zl s.data.toList).isSome) := zpa (by unfold V.valid V.kj; rw [zi]; simp [h1, h2])
   have b2 : (s.size : Int) ≤ 64 := by omega
   go_enter Tryz.func102, Tryz.ntmps102
   go_wp2_with fail
   refine (zee _).mono ?_
   rintro e w' ⟨rfl, rfl⟩
   go_wp2_with fail
   refine (zis s _ hm (by omega)).mono ?_
   exact zr5
  ·have HF : Hid (V.valid 1 s.data.toList = false) := zpa (by unfold V.valid; rw [zi]; simp [h2])
   have b2 : ¬ (s.size : Int) ≤ 64 := by omega
   go_enter Tryz.func102, Tryz.ntmps102
   go_wp2_with fail
   refine (zee _).mono ?_
   exact zqn
 ·have HF : Hid (V.valid 1 s.data.toList = false) := zpa (by unfold V.valid; rw [zi]; simp [h1])
  have b1 : ¬ (1 : Int) ≤ (s.size : Int) := by omega
  go_enter Tryz.func102, Tryz.ntmps102
  go_wp2_with fail
  refine (zee _).mono ?_
  exact zqn
theorem zeq (s : ByteArray) (w : World) (hm : zm w) (hs : s.size ≤ maxLen) :
  Calls Tryz.prog 102 #[.int .i64 2, .string s] w fun e w' => e = .returned (.bool (V.valid 2 s.data.toList)) /\ Below w.heap.size w w' := by
 unfold maxLen at hs
 have hmeth := zka
 by_cases h1 : 1 ≤ s.size
 ·have b1 : (1 : Int) ≤ (s.size : Int) := by omega
  by_cases h2 : s.size ≤ 64
  ·have HF : Hid (V.valid 2 s.data.toList = (V.zq s.data.toList).isSome) := zpa (by unfold V.valid V.kj; rw [zi]; simp [h1, h2])
   have b2 : (s.size : Int) ≤ 64 := by omega
   go_enter Tryz.func102, Tryz.ntmps102
   go_wp2_with fail
   refine (zeb _).mono ?_
   rintro e w' ⟨rfl, rfl⟩
   go_wp2_with fail
   refine (zjr s _ hm (by omega)).mono ?_
   exact zr5
  ·have HF : Hid (V.valid 2 s.data.toList = false) := zpa (by unfold V.valid; rw [zi]; simp [h2])
   have b2 : ¬ (s.size : Int) ≤ 64 := by omega
   go_enter Tryz.func102, Tryz.ntmps102
   go_wp2_with fail
   refine (zeb _).mono ?_
   exact zqn
 ·have HF : Hid (V.valid 2 s.data.toList = false) := zpa (by unfold V.valid; rw [zi]; simp [h1])
  have b1 : ¬ (1 : Int) ≤ (s.size : Int) := by omega
  go_enter Tryz.func102, Tryz.ntmps102
  go_wp2_with fail
  refine (zeb _).mono ?_
  exact zqn
theorem zft (s : ByteArray) (w : World) (_hm : zm w) (hs : s.size ≤ maxLen) :
  Calls Tryz.prog 102 #[.int .i64 3, .string s] w fun e w' => e = .returned (.bool (V.valid 3 s.data.toList)) /\ Below w.heap.size w w' := by
 unfold maxLen at hs
 have hmeth := zk2
 by_cases h1 : 1 ≤ s.size
 ·have b1 : (1 : Int) ≤ (s.size : Int) := by omega
  by_cases h2 : s.size ≤ 64
  ·have HF : Hid (V.valid 3 s.data.toList = V.zdp s.data.toList) := zpa (by unfold V.valid V.kj; rw [zi]; simp [h1, h2])
   have b2 : (s.size : Int) ≤ 64 := by omega
   go_enter Tryz.func102, Tryz.ntmps102
   go_wp2_with fail
   refine (zea _).mono ?_
   rintro e w' ⟨rfl, rfl⟩
   go_wp2_with fail
   refine (zja s _ (by unfold maxLen; omega)).mono ?_
   exact zr5
  ·have HF : Hid (V.valid 3 s.data.toList = false) := zpa (by unfold V.valid; rw [zi]; simp [h2])
   have b2 : ¬ (s.size : Int) ≤ 64 := by omega
   go_enter Tryz.func102, Tryz.ntmps102
   go_wp2_with fail
   refine (zea _).mono ?_
   exact zqn
 ·have HF : Hid (V.valid 3 s.data.toList = false) := zpa (by unfold V.valid; rw [zi]; simp [h1])
  have b1 : ¬ (1 : Int) ≤ (s.size : Int) := by omega
  go_enter Tryz.func102, Tryz.ntmps102
  go_wp2_with fail
  refine (zea _).mono ?_
  exact zqn
theorem zly (n : Int) (h1 : n ≠ 1) (h2 : n ≠ 2) (h3 : n ≠ 3) (s : ByteArray) (w : World) :
  Calls Tryz.prog 102 #[.int .i64 n, .string s] w fun e w' => e = .returned (.bool (V.valid n s.data.toList)) /\ Below w.heap.size w w' := by
 have HF : Hid (V.valid n s.data.toList = false) := zpa (by unfold V.valid V.kj; simp [h1, h2, h3])
 go_enter Tryz.func102, Tryz.ntmps102
 go_wp2_with fail
 refine (zm9 n h1 h2 h3 _).mono ?_
 rintro e w' ⟨rfl, rfl⟩
 go_wp2
 go_ret
 exact ⟨zf HF.out.symm, zpd _ _⟩
theorem zc8 (n : Int) (s : ByteArray) (w : World) (hm : zm w) (hs : s.size ≤ maxLen) :
  Calls Tryz.prog 102 #[.int .i64 n, .string s] w fun e w' => e = .returned (.bool (V.valid n s.data.toList)) /\ Below w.heap.size w w' := by
 by_cases h1 : n = 1
 ·subst h1; exact zfb s w hm hs
 ·by_cases h2 : n = 2
  ·subst h2; exact zeq s w hm hs
  ·by_cases h3 : n = 3
   ·subst h3; exact zft s w hm hs
   ·exact zly n h1 h2 h3 s w
def qr (c : V.Comp) : List Value := .int .i64 c.par :: .int .i64 c.sch :: .string ⟨c.name.toArray⟩ :: .string ⟨c.ver.toArray⟩ :: c.dig.map (fun n => Value.int .u8 n)
def ccells (c : V.Comp) : Array Value := (qr c).toArray
def cval (c : V.Comp) : Value := .agg (ccells c)
structure CompWf (c : V.Comp) : Prop where
 par : (Lit.int .i64 c.par).wf = true
 sch : (Lit.int .i64 c.sch).wf = true
 name : c.name.length ≤ maxLen
 ver : c.ver.length ≤ maxLen
 len : c.dig.length = 32
 dig : ∀ n ∈ c.dig, (Lit.int .u8 n).wf = true
theorem ccells_0 (c : V.Comp) : (ccells c)[0]? = some (.int .i64 c.par) := rfl
theorem zfv (c : V.Comp) : (ccells c)[1]? = some (.int .i64 c.sch) := rfl
theorem zf7 (c : V.Comp) : (ccells c)[2]? = some (.string ⟨c.name.toArray⟩) := rfl
theorem zfr (c : V.Comp) : (ccells c)[3]? = some (.string ⟨c.ver.toArray⟩) := rfl
theorem CompWf.size {c : V.Comp} (h : CompWf c) : (ccells c).size = 36 := by
 unfold ccells qr
 simp [h.len]
theorem zb2 : (Tryz.prog.info? 60).map (·.size) = some 36 := by kernel_rfl
theorem zjq : ∃ d, Tryz.prog.underlying 60 = some d /\ d.isRow = true := ⟨_, Tryz.underlying60, rfl⟩
theorem zn5 {c : V.Comp} (hc : CompWf c) {w : World} {b o : Nat} (h : w.rangeAt b o (qr c)) :
  (Instr.loadAt 60 (.pointer (some ⟨b, o, none⟩))).run Tryz.prog w = .ok (.agg (ccells c)) w := by
 obtain ⟨d, hu, hd⟩ := zjq
 exact run_loadAt_mid w b o _ (qr c) d h hu hd (by rw [zb2]; have := hc.size; unfold ccells at this; simp at this; rw [this])
theorem vd (c : V.Comp) (w : World) (t : TypeId) : (w.alloc (.cells (ccells c) t)).rangeAt w.heap.size 0 (qr c) := fun j v hv => by
 rw [Nat.zero_add, World.cell?_alloc_new]
 unfold ccells
 simpa using hv
theorem vt {ops : Array Oper} {rest : List Oper} {o : Oper} {a : Act} {w : World} {Q : Exit -> Act -> World -> Prop} (hgd : o.guard = none) (x : Operand) (ho : o.op = .load 60 x)
  (b off : Nat) (hx : a.eval x = .pointer (some ⟨b, off, none⟩)) (c : V.Comp) (hc : CompWf c) (hr : w.rangeAt b off (qr c))
  (h : wpList Tryz.prog ops Q rest (a.put o.dst (.agg (ccells c))) w) : wpList Tryz.prog ops Q (o :: rest) a w := by
 obtain ⟨d, hu, hd⟩ := zjq
 exact wpList_load_mid hgd _ x ho b off hx (qr c) d hr hu hd (by rw [zb2]; have := hc.size; unfold ccells at this; simp at this; rw [this]) h
theorem znp (w : World) (old cs : Array Value) (t : TypeId) : (w.alloc (.cells old t)).setRow w.heap.size cs = w.alloc (.cells cs t) := by
 have e : ((w.alloc (.cells old t)).setRow w.heap.size cs).heap = (w.alloc (.cells cs t)).heap := by
  apply Array.ext_getElem?
  intro i
  show ((w.heap.push _).modify w.heap.size _)[i]? = (w.heap.push _)[i]?
  rw [Array.getElem?_modify, Array.getElem?_push, Array.getElem?_push]
  by_cases h : i = w.heap.size
  ·subst h; simp
  ·rw [if_neg h, if_neg h, if_neg (Ne.symm h)]
 show ({ (w.alloc (.cells old t)).setRow w.heap.size cs with heap := ((w.alloc (.cells old t)).setRow w.heap.size cs).heap } : World) = _
 rw [e]
 rfl
theorem comp_one {c : V.Comp} : (ccells c).all (·.oneCell') = true := by
 rw [Array.all_eq_true_iff_forall_mem]
 intro v hv
 unfold ccells qr at hv
 simp at hv
 rcases hv with rfl | rfl | rfl | rfl | ⟨n, _, rfl⟩ <;> rfl
theorem zb7 {ops : Array Oper} {rest : List Oper} {o : Oper} {a : Act} {w : World} {Q : Exit -> Act -> World -> Prop} (hgd : o.guard = none) (x y : Operand) (ho : o.op = .store 60 x y)
  (old : Array Value) (t : TypeId) (hx : a.eval x = .pointer (some ⟨w.heap.size, 0, none⟩)) (c : V.Comp) (hc : CompWf c) (hy : a.eval y = .agg (ccells c)) (ho36 : old.size = 36)
  (h : wpList Tryz.prog ops Q rest (a.put o.dst undef) (w.alloc (.cells (ccells c) t))) : wpList Tryz.prog ops Q (o :: rest) a (w.alloc (.cells old t)) := by
 refine wpList_store_row hgd _ x y ho w.heap.size (ccells c) hx hy t old (heap_alloc_new w _) (by rw [zb2, hc.size]) (by rw [ho36, hc.size]) comp_one ?_
 rw [znp]; exact h
def zeroC : V.Comp := ⟨0, 0, [], [], List.replicate 32 0⟩
theorem zh {w w' : World} {b o : Nat} {l : List Value} (h : w.rangeAt b o l) (hb : Below w.heap.size w w') : w'.rangeAt b o l := fun j v hv => by
 have := h j v hv
 exact (hb.cell (p := ⟨b, o + j, none⟩) (World.block_lt_of_cell? _ _ this)).trans this
theorem wf_rng {n : Int} (h : (Lit.int .i64 n).wf = true) : -9223372036854775808 ≤ n /\ n ≤ 9223372036854775807 := by
 simpa [Lit.wf, IntKind.min, IntKind.max, IntKind.signed, IntKind.bits] using h
theorem zr4 {P : Prop} (h : P := by
 rintro e w2 ⟨rfl, hb2⟩
 have HB2 := zpb HB1 hb2
 clear hb2
 go_wp2
 go_ret
 exact ⟨zf (by rw [HD.out]; rfl), HB2.out⟩) : P := h
theorem zgs (c : V.Comp) (w : World) (hm : zm w) (hc : CompWf c) :
  Calls Tryz.prog 66 #[cval c] w fun e w' => e = .returned (.bool (V.yd c)) /\ Below w.heap.size w w' := by
 have HM := zpa hm
 have HC := zpa hc
 have h1 := zfv c
 have h2 := zf7 c
 have h3 := zfr c
 have HD : Hid (V.yd c = (V.jj c.name && V.valid c.sch c.ver)) := rfl
 have hn := zpa hc.name
 have hv := zpa hc.ver
 clear hm hc
 unfold cval
 generalize ccells c = cs at *
 generalize V.yd c = r at *
 obtain ⟨par, sch, name, ver, dig⟩ := c
 simp only at *
 go_enter Tryz.func66, Tryz.ntmps66
 go_wp2_with fail
 refine (zkp _ _ (HM.out.below ((zpd _ w).alloc (zpc _) _)) (by show name.toArray.size ≤ _; simpa using hn.out)).mono ?_
 rintro e w1 ⟨rfl, hb1⟩
 have hb0 := (zpd w.heap.size w).alloc (zpc _) (.cells cs 60)
 have HB1 := zpa (hb0.trans (hb1.mono hb0.size))
 have hc1 : w1.cell? ⟨w.heap.size, 1, none⟩ = some (.int .i64 sch) := by rw [hb1.cell (p := ⟨w.heap.size, 1, none⟩) (by simp), World.cell?_alloc_new]; exact h1
 have hc3 : w1.cell? ⟨w.heap.size, 3, none⟩ = some (.string ⟨ver.toArray⟩) := by rw [hb1.cell (p := ⟨w.heap.size, 3, none⟩) (by simp), World.cell?_alloc_new]; exact h3
 clear hb0 hb1 h1 h2 h3
 rw [ja]
 rcases hp : V.jj name with _ | _
 ·have HP := zpa hp
  rw [hp] at HD
  clear hp
  go_wp2
  go_ret
  exact ⟨zf HD.out.symm, HB1.out⟩
 ·have HP := zpa hp
  rw [hp] at HD
  clear hp
  go_wp2_with fail
  refine (zc8 _ _ _ (HM.out.below HB1.out) (by show ver.toArray.size ≤ _; simpa using hv.out)).mono ?_
  exact zr4
open Go.RowKit
open Go.RowKit
def zk (l : List Int) : List Value := l.map fun n => Value.int .u8 n
def dcells (l : List Int) : Array Value := (zk l).toArray
theorem zch : (Tryz.prog.info? 26).map (·.size) = some 32 := by kernel_rfl
theorem zkd {l : List Int} (h : l.length = 32) : (dcells l).size = 32 := by unfold dcells zk; simp [h]
def qh : List Int := List.replicate 32 0
theorem compIE : ∃ ie z, Tryz.prog.info? 60 = some ie /\ ie.size = 36 /\ ie.zero = some z := by
 have h : (match Tryz.prog.info? 60 with | some i => i.size == 36 && i.zero.isSome | none => false) = true := by kernel_rfl
 cases hq : Tryz.prog.info? 60 with
 | none => rw [hq] at h; cases h
 | some i =>
  rw [hq] at h
  simp only [Bool.and_eq_true, beq_iff_eq] at h
  obtain ⟨z, hz⟩ := Option.isSome_iff_exists.1 h.2
  exact ⟨i, z, rfl, h.1, hz⟩
def dig1 (x : Int) : List Int := x :: List.replicate 31 0
open Go.RowKit
theorem laidOutK : laidOutB Tryz.prog = true := by kernel_rfl
theorem zit : ∃ m, Tryz.prog.types.size = m + 2 := ⟨Tryz.prog.types.size - 2, by
  have h : decide (2 ≤ Tryz.prog.types.size) = true := by kernel_rfl
  have := of_decide_eq_true h
  omega⟩
theorem zhh {α β : Type} {f : α -> Option β} {g : α -> β} : ∀ {l : List α}, (∀ x ∈ l, f x = some (g x)) -> l.mapM f = some (l.map g)
 | [], _ => rfl
 | a :: l, h => by
  rw [List.mapM_cons, h a (by simp), zhh (fun x hx => h x (by simp [hx]))]
  rfl
theorem zj6 : Tryz.prog.cellsOf 5 = 1 := by kernel_rfl
theorem xt : Tryz.prog.cellsOf 26 = 32 := by kernel_rfl
theorem vk : Tryz.prog.cellsOf 60 = 36 := by kernel_rfl
theorem zhs : Tryz.prog.cellsOf 3 = 1 := by kernel_rfl
theorem zhf : Tryz.prog.cellsOf 9 = 1 := by kernel_rfl
def uk (l : List Int) : List Lit := l.map fun n => Lit.int .u8 n
theorem zlz (l : List Int) : ((List.range l.length).map fun i => [Lit.int .u8 (l.getD i 0)]).flatten = uk l := by
 unfold uk
 apply List.ext_getElem?
 intro i
 have e : ∀ r : List Nat, (r.map fun i => [Lit.int .u8 (l.getD i 0)]).flatten = r.map fun i => Lit.int .u8 (l.getD i 0) := fun r => by
  induction r with
  | nil => rfl
  | cons a r ih => rw [List.map_cons, List.map_cons, List.flatten_cons, ih]; rfl
 rw [e, List.getElem?_map, List.getElem?_map]
 by_cases h : i < l.length
 ·rw [List.getElem?_range h, List.getElem?_eq_getElem h]
  simp [List.getD, List.getElem?_eq_getElem h]
 ·rw [List.getElem?_eq_none (by simpa using h), List.getElem?_eq_none (by omega)]
  rfl
theorem zcv (d : Nat) {l : List Int} (hl : l.length = 32) (hw : ∀ n ∈ l, (Lit.int .u8 n).wf = true) : Tryz.prog.keyLits (d + 2) 26 (zk l) = some (uk l) := by
 have hlen : (zk l).length = 32 := by unfold zk; simp [hl]
 unfold Program.keyLits
 simp only [Tryz.underlying26]
 rw [if_pos (by rw [hlen, xt])]
 rw [zhh (g := fun i => [Lit.int .u8 (l.getD i 0)]) (fun i hi => ?_)]
 ·rw [Option.map_some, ← zlz l, hl]
 ·have hi' : i < l.length := by rw [hl]; simpa using hi
  have e : ((zk l).drop (i * Tryz.prog.cellsOf 5)).take (Tryz.prog.cellsOf 5) = [Value.int .u8 (l.getD i 0)] := by
   rw [zj6, Nat.mul_one, List.drop_eq_getElem_cons (by rw [hlen]; omega)]
   unfold zk
   simp [List.getD, List.getElem?_eq_getElem hi']
  rw [e]
  unfold Program.keyLits
  simp only [Tryz.underlying5]
  rw [if_pos ⟨by trivial, hw _ (by rw [List.getD_eq_getElem?_getD, List.getElem?_eq_getElem hi']; exact List.getElem_mem _)⟩]
def ko (c : V.Comp) : List Lit := .int .i64 c.par :: .int .i64 c.sch :: .string c.name :: .string c.ver :: uk c.dig
theorem uw (d : Nat) {c : V.Comp} (h : CompWf c) : Tryz.prog.keyLits (d + 3) 60 (qr c) = some (ko c) := by
 have hlen : (qr c).length = 36 := by have := h.size; unfold ccells at this; simpa using this
 have hd := zcv d h.len h.dig
 have hn : (⟨c.name.toArray⟩ : ByteArray).size ≤ maxLen := by show c.name.toArray.size ≤ _; simpa using h.name
 have hv : (⟨c.ver.toArray⟩ : ByteArray).size ≤ maxLen := by show c.ver.toArray.size ≤ _; simpa using h.ver
 have k1 : ∀ n : Int, (Lit.int .i64 n).wf = true -> Tryz.prog.keyLits (d + 2) 3 [.int .i64 n] = some [.int .i64 n] := fun n hw => by
  unfold Program.keyLits
  simp only [Tryz.underlying3]
  rw [if_pos ⟨by trivial, hw⟩]
 have k2 : ∀ s : ByteArray, s.size ≤ maxLen -> Tryz.prog.keyLits (d + 2) 9 [.string s] = some [.string s.data.toList] := fun s hw => by
  unfold Program.keyLits
  simp only [Tryz.underlying9]
  rw [if_pos hw]
 have htake : (zk c.dig).take 32 = zk c.dig := List.take_of_length_le (by unfold zk; simp [h.len])
 unfold Program.keyLits
 simp only [Tryz.underlying60]
 rw [if_pos ⟨by rw [hlen, vk], by decide +kernel⟩]
 have e4 : ((qr c).drop 4).take 32 = zk c.dig := htake
 simp only [List.mapM_cons, List.mapM_nil, zhs, zhf, xt]
 rw [show ((qr c).drop 0).take 1 = [.int .i64 c.par] from rfl, show ((qr c).drop 1).take 1 = [.int .i64 c.sch] from rfl, show ((qr c).drop 2).take 1 = [.string ⟨c.name.toArray⟩] from rfl, show ((qr c).drop 3).take 1 = [.string ⟨c.ver.toArray⟩] from rfl, e4,
   k1 _ h.par, k1 _ h.sch, k2 _ hn, k2 _ hv, hd]
 simp [ko]
theorem znh {l : List Int} (hl : l.length = 32) (hw : ∀ n ∈ l, (Lit.int .u8 n).wf = true) : keyOf Tryz.prog 26 (.agg (dcells l)) = some (.string (keyBytes (uk l))) := by
 obtain ⟨m, hm⟩ := zit
 unfold keyOf
 simp only [Tryz.underlying26]
 rw [if_pos (by rw [Bool.and_eq_true]; exact ⟨by kernel_rfl, by simp [Value.formed, Tryz.underlying26, zkd hl, xt]⟩), hm]
 show Option.map _ (Tryz.prog.keyLits (m + 1 + 2) 26 (dcells l).toList) = _
 rw [show (dcells l).toList = zk l from rfl, zcv (m + 1) hl hw]
 rfl
theorem zb9 {c : V.Comp} (h : CompWf c) : keyOf Tryz.prog 60 (.agg (ccells c)) = some (.string (keyBytes (ko c))) := by
 obtain ⟨m, hm⟩ := zit
 unfold keyOf
 simp only [Tryz.underlying60]
 rw [if_pos (by rw [Bool.and_eq_true]; exact ⟨by kernel_rfl, by simp [Value.formed, Tryz.underlying60, h.size, vk]⟩), hm]
 show Option.map _ (Tryz.prog.keyLits (m + 3) 60 (ccells c).toList) = _
 rw [show (ccells c).toList = qr c from rfl, uw m h]
 rfl
theorem zdi {a b : List Int} (h : uk a = uk b) : a = b := by
 unfold uk at h
 exact List.map_inj_right (fun x y e => by injection e) |>.1 h
theorem zb8 {a b : V.Comp} (h : ko a = ko b) : a = b := by
 unfold ko at h
 simp only [List.cons.injEq, Lit.int.injEq, Lit.string.injEq, true_and] at h
 obtain ⟨h1, h2, h3, h4, h5⟩ := h
 have := zdi h5
 cases a; cases b
 simp_all
theorem zsg {P : Prop} (h : P := by
 by_cases h : a = b
 ·rw [this.2 h]; simp [h]
 ·rcases r with _ | _
  ·simp [h]
  ·exact absurd (this.1 rfl) h) : P := h
theorem eq_comp {a b : V.Comp} (ha : CompWf a) (hb : CompWf b) (w : World) : (Op.equalIn 10000 60 (.agg (ccells a)) (.agg (ccells b))).run Tryz.prog w = .ok (decide (a = b)) w := by
 obtain ⟨r, hr, hiff⟩ := run_equal_deep (P := Tryz.prog) w (m := 20) (by decide) (k := 60) (by kernel_rfl) (by kernel_rfl) (zb9 ha) (zb9 hb)
 have : (r = true ↔ a = b) := by
  rw [hiff]
  constructor
  ·intro e
   obtain ⟨m, hm⟩ := zit
   exact zb8 (keyLits_inj (uw 0 ha) (uw 0 hb) (by simpa using e))
  ·intro e; rw [e]
 have e : r = decide (a = b) := by
  exact zsg
 rw [e] at hr
 exact hr
theorem zim {a b : List Int} (ha : a.length = 32) (wa : ∀ n ∈ a, (Lit.int .u8 n).wf = true) (hb : b.length = 32) (wb : ∀ n ∈ b, (Lit.int .u8 n).wf = true) (w : World) :
  (Op.equalIn 10000 26 (.agg (dcells a)) (.agg (dcells b))).run Tryz.prog w = .ok (decide (a = b)) w := by
 obtain ⟨r, hr, hiff⟩ := run_equal_deep (P := Tryz.prog) w (m := 20) (by decide) (k := 26) (by kernel_rfl) (by kernel_rfl) (znh ha wa) (znh hb wb)
 have : (r = true ↔ a = b) := by
  rw [hiff]
  constructor
  ·intro e
   exact zdi (keyLits_inj (zcv 0 ha wa) (zcv 0 hb wb) (by simpa using e))
  ·intro e; rw [e]
 have e : r = decide (a = b) := by
  exact zsg
 rw [e] at hr
 exact hr
theorem wn {P : Program} {ops : Array Oper} {rest : List Oper} {o : Oper} {a : Act} {w : World} {Q : Exit -> Act -> World -> Prop} (hgd : o.guard = none) (T T2 : TypeId) (x y : Operand) (ho : o.op = .binOp .eql T x y T2)
  (xs ys : Array Value) (hx : a.eval x = .agg xs) (hy : a.eval y = .agg ys) (hm : P.eqGuardType P.depth T = false) (r : Bool) (hr : (Op.equalIn 10000 T (.agg xs) (.agg ys)).run P w = .ok r w)
  (h : wpList P ops Q rest (a.put o.dst (.bool r)) w) : wpList P ops Q (o :: rest) a w := by
 refine wpList_plain hgd fun K hK => ?_
 unfold Oper.wp execOp
 simp only [ho, hx, hy, Sem.run_bind, run_eqGuard_agg w .eql T x y xs ys hm, Result.andThen_ok, run_eql_struct, hr, Sem.run_pure]
 exact hK _ _ h
theorem zl6 : Tryz.prog.eqGuardType Tryz.prog.depth 60 = false := by kernel_rfl
theorem jo : Tryz.prog.eqGuardType Tryz.prog.depth 26 = false := by kernel_rfl
def icells (d : List Int) (time : Int) (v : Value) : Array Value := (zk d ++ [.int .i64 time, v]).toArray
theorem zcu (w : World) (t : TypeId) {d : List Int} (time : Int) (v : Value) (hd : d.length = 32) : (w.alloc (.cells (icells d time v) t)).rangeAt w.heap.size 0 (zk d) := fun j u hj => by
 rw [Nat.zero_add, World.cell?_alloc_new]
 unfold icells
 have : j < (zk d).length := (List.getElem?_eq_some_iff.1 hj).1
 rw [List.getElem?_toArray, List.getElem?_append_left this]
 exact hj
end Go.Proofs.YtbikeahmldobkaaGreatDoor
