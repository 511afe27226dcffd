/-
  Lemmas for the law.
-/
import Derived.Test.YtbikeahmldobkaaGreatDoorC51x07
import Derived.Test.YtbikeahmldobkaaGreatDoorC51x05
import Derived.Test.YtbikeahmldobkaaGreatDoorC51x04
import Derived.Test.YtbikeahmldobkaaGreatDoorC51x03
import Derived.Deep.MidRow
import Derived.StillTailTactics
import Derived.Deep.Upon
import Derived.Great.BuildSlice
set_option linter.all false
set_option maxRecDepth 100000
set_option maxHeartbeats 1600000
namespace Go.Proofs.YtbikeahmldobkaaGreatDoor
open Go.RowKit
theorem zpn (k : Nat) (w : World) : (method (k + 1) 203 (.agg #[]) "admission/version.valid").run Tryz.prog w = .ok (227, .agg #[]) w := by kernel_rfl
theorem zov (k : Nat) (w : World) : (method (k + 1) 204 (.agg #[]) "admission/version.valid").run Tryz.prog w = .ok (253, .agg #[]) w := by kernel_rfl
theorem zpm (k : Nat) (w : World) : (method (k + 1) 205 (.agg #[]) "admission/version.valid").run Tryz.prog w = .ok (265, .agg #[]) w := by kernel_rfl
theorem zwj {P : Prop} (h : P := by
 go_enter Tryz.func136, Tryz.ntmps136
 go_wp2
 go_ret
 exact ⟨rfl, rfl⟩) : P := h
theorem zhx (w : World) : Calls Tryz.prog 136 #[.int .i64 1] w fun e w' => e = .returned (.iface 203 (.agg #[])) /\ w = w' := by
 exact zwj
theorem zhr (w : World) : Calls Tryz.prog 136 #[.int .i64 2] w fun e w' => e = .returned (.iface 204 (.agg #[])) /\ w = w' := by
 exact zwj
theorem zhq (w : World) : Calls Tryz.prog 136 #[.int .i64 3] w fun e w' => e = .returned (.iface 205 (.agg #[])) /\ w = w' := by
 exact zwj
theorem zsl (n : Int) (h1 : n ≠ 1) (h2 : n ≠ 2) (h3 : n ≠ 3) (w : World) : Calls Tryz.prog 136 #[.int .i64 n] w fun e w' => e = .returned .nilIface /\ w = w' := by
 have b1 : (n == 1) = false := by simpa using h1
 have b2 : (n == 2) = false := by simpa using h2
 have b3 : (n == 3) = false := by simpa using h3
 exact zwj
theorem zwp {P : Prop} (h : P := by
 rintro e w' ⟨rfl, rfl⟩
 go_wp2
 go_ret
 exact ⟨ze HF.out.symm, zvb _ _⟩) : P := h
theorem zyh {P : Prop} (h : P := by
 rintro e w1 ⟨rfl, hb⟩
 go_wp2
 go_ret
 exact ⟨ze (by rw [HF.out]), hb⟩) : P := h
theorem ziy (s : ByteArray) (w : World) (hm : zj w) (hs : s.size ≤ maxLen) :
  Calls Tryz.prog 102 #[.int .i64 1, .string s] w fun e w' => e = .returned (.bool (V.valid 1 s.data.toList)) /\ Below w.heap.size w w' := by
 unfold maxLen at hs
 have g0 := zpn
 by_cases h1 : 1 ≤ s.size
 ·have b1 : (1 : Int) ≤ (s.size : Int) := by omega
  by_cases h2 : s.size ≤ 64
  ·have HF : Hid (V.valid 1 s.data.toList = (V.zo s.data.toList).isSome) := zu8 (by unfold V.valid V.xl; rw [zh]; simp [h1, h2])
   have b2 : (s.size : Int) ≤ 64 := by omega
   go_enter Tryz.func102, Tryz.ntmps102
   go_wp2_with fail
   refine (zhx _).mono ?_
   rintro e w' ⟨rfl, rfl⟩
   go_wp2_with fail
   refine (zmw s _ hm (by omega)).mono ?_
   exact zyh
  ·have HF : Hid (V.valid 1 s.data.toList = false) := zu8 (by unfold V.valid; rw [zh]; simp [h2])
   have b2 : ¬ (s.size : Int) ≤ 64 := by omega
   go_enter Tryz.func102, Tryz.ntmps102
   go_wp2_with fail
   refine (zhx _).mono ?_
   exact zwp
 ·have HF : Hid (V.valid 1 s.data.toList = false) := zu8 (by unfold V.valid; rw [zh]; simp [h1])
  have b1 : ¬ (1 : Int) ≤ (s.size : Int) := by omega
  go_enter Tryz.func102, Tryz.ntmps102
  go_wp2_with fail
  refine (zhx _).mono ?_
  exact zwp
theorem zh8 (s : ByteArray) (w : World) (hm : zj w) (hs : s.size ≤ maxLen) :
  Calls Tryz.prog 102 #[.int .i64 2, .string s] w fun e w' => e = .returned (.bool (V.valid 2 s.data.toList)) /\ Below w.heap.size w w' := by
 unfold maxLen at hs
 have g0 := zov
 by_cases h1 : 1 ≤ s.size
 ·have b1 : (1 : Int) ≤ (s.size : Int) := by omega
  by_cases h2 : s.size ≤ 64
  ·have HF : Hid (V.valid 2 s.data.toList = (V.zw s.data.toList).isSome) := zu8 (by unfold V.valid V.xl; rw [zh]; simp [h1, h2])
   have b2 : (s.size : Int) ≤ 64 := by omega
   go_enter Tryz.func102, Tryz.ntmps102
   go_wp2_with fail
   refine (zhr _).mono ?_
   rintro e w' ⟨rfl, rfl⟩
   go_wp2_with fail
   refine (znz s _ hm (by omega)).mono ?_
   exact zyh
  ·have HF : Hid (V.valid 2 s.data.toList = false) := zu8 (by unfold V.valid; rw [zh]; simp [h2])
   have b2 : ¬ (s.size : Int) ≤ 64 := by omega
   go_enter Tryz.func102, Tryz.ntmps102
   go_wp2_with fail
   refine (zhr _).mono ?_
   exact zwp
 ·have HF : Hid (V.valid 2 s.data.toList = false) := zu8 (by unfold V.valid; rw [zh]; simp [h1])
  have b1 : ¬ (1 : Int) ≤ (s.size : Int) := by omega
  go_enter Tryz.func102, Tryz.ntmps102
  go_wp2_with fail
  refine (zhr _).mono ?_
  exact zwp
theorem zjo (s : ByteArray) (w : World) (_hm : zj w) (hs : s.size ≤ maxLen) :
  Calls Tryz.prog 102 #[.int .i64 3, .string s] w fun e w' => e = .returned (.bool (V.valid 3 s.data.toList)) /\ Below w.heap.size w w' := by
 unfold maxLen at hs
 have g0 := zpm
 by_cases h1 : 1 ≤ s.size
 ·have b1 : (1 : Int) ≤ (s.size : Int) := by omega
  by_cases h2 : s.size ≤ 64
  ·have HF : Hid (V.valid 3 s.data.toList = V.zeh s.data.toList) := zu8 (by unfold V.valid V.xl; rw [zh]; simp [h1, h2])
   have b2 : (s.size : Int) ≤ 64 := by omega
   go_enter Tryz.func102, Tryz.ntmps102
   go_wp2_with fail
   refine (zhq _).mono ?_
   rintro e w' ⟨rfl, rfl⟩
   go_wp2_with fail
   refine (zne s _ (by unfold maxLen; omega)).mono ?_
   exact zyh
  ·have HF : Hid (V.valid 3 s.data.toList = false) := zu8 (by unfold V.valid; rw [zh]; simp [h2])
   have b2 : ¬ (s.size : Int) ≤ 64 := by omega
   go_enter Tryz.func102, Tryz.ntmps102
   go_wp2_with fail
   refine (zhq _).mono ?_
   exact zwp
 ·have HF : Hid (V.valid 3 s.data.toList = false) := zu8 (by unfold V.valid; rw [zh]; simp [h1])
  have b1 : ¬ (1 : Int) ≤ (s.size : Int) := by omega
  go_enter Tryz.func102, Tryz.ntmps102
  go_wp2_with fail
  refine (zhq _).mono ?_
  exact zwp
theorem zqm (n : Int) (h1 : n ≠ 1) (h2 : n ≠ 2) (h3 : n ≠ 3) (s : ByteArray) (w : World) :
  Calls Tryz.prog 102 #[.int .i64 n, .string s] w fun e w' => e = .returned (.bool (V.valid n s.data.toList)) /\ Below w.heap.size w w' := by
 have HF : Hid (V.valid n s.data.toList = false) := zu8 (by unfold V.valid V.xl; simp [h1, h2, h3])
 go_enter Tryz.func102, Tryz.ntmps102
 go_wp2_with fail
 refine (zsl n h1 h2 h3 _).mono ?_
 rintro e w' ⟨rfl, rfl⟩
 go_wp2
 go_ret
 exact ⟨ze HF.out.symm, zvb _ _⟩
theorem zgh (n : Int) (s : ByteArray) (w : World) (hm : zj w) (hs : s.size ≤ maxLen) :
  Calls Tryz.prog 102 #[.int .i64 n, .string s] w fun e w' => e = .returned (.bool (V.valid n s.data.toList)) /\ Below w.heap.size w w' := by
 by_cases h1 : n = 1
 ·subst h1; exact ziy s w hm hs
 ·by_cases h2 : n = 2
  ·subst h2; exact zh8 s w hm hs
  ·by_cases h3 : n = 3
   ·subst h3; exact zjo s w hm hs
   ·exact zqm n h1 h2 h3 s w
def qb (c : V.Comp) : List Value := .int .i64 c.par :: .int .i64 c.sch :: .string ⟨c.name.toArray⟩ :: .string ⟨c.ver.toArray⟩ :: c.dig.map (fun n => Value.int .u8 n)
def ccells (c : V.Comp) : Array Value := (qb c).toArray
def cval (c : V.Comp) : Value := .agg (ccells c)
structure CompWf (c : V.Comp) : Prop where
 par : (Lit.int .i64 c.par).wf = true
 sch : (Lit.int .i64 c.sch).wf = true
 name : c.name.length ≤ maxLen
 ver : c.ver.length ≤ maxLen
 len : c.dig.length = 32
 dig : ∀ n ∈ c.dig, (Lit.int .u8 n).wf = true
theorem ccells_0 (c : V.Comp) : (ccells c)[0]? = some (.int .i64 c.par) := rfl
theorem zjq (c : V.Comp) : (ccells c)[1]? = some (.int .i64 c.sch) := rfl
theorem zj7 (c : V.Comp) : (ccells c)[2]? = some (.string ⟨c.name.toArray⟩) := rfl
theorem zjl (c : V.Comp) : (ccells c)[3]? = some (.string ⟨c.ver.toArray⟩) := rfl
theorem CompWf.size {c : V.Comp} (h : CompWf c) : (ccells c).size = 36 := by
 unfold ccells qb
 simp [h.len]
theorem zbl : (Tryz.prog.info? 60).map (·.size) = some 36 := by kernel_rfl
theorem zh5 : ∃ d, Tryz.prog.underlying 60 = some d /\ d.isRow = true := ⟨_, Tryz.underlying60, rfl⟩
theorem ztv {c : V.Comp} (hc : CompWf c) {w : World} {b o : Nat} (h : w.rangeAt b o (qb c)) :
  (Instr.loadAt 60 (.pointer (some ⟨b, o, none⟩))).run Tryz.prog w = .ok (.agg (ccells c)) w := by
 obtain ⟨d, hu, hd⟩ := zh5
 exact run_loadAt_mid w b o _ (qb c) d h hu hd (by rw [zbl]; have := hc.size; unfold ccells at this; simp at this; rw [this])
theorem vd (c : V.Comp) (w : World) (t : TypeId) : (w.alloc (.cells (ccells c) t)).rangeAt w.heap.size 0 (qb c) := fun j v hv => by
 rw [Nat.zero_add, World.cell?_alloc_new]
 unfold ccells
 simpa using hv
theorem vm {ops : Array Oper} {rest : List Oper} {o : Oper} {a : Act} {w : World} {Q : Exit -> Act -> World -> Prop} (g0 : o.guard = none) (x : Operand) (ho : o.op = .load 60 x)
  (b off : Nat) (hx : a.eval x = .pointer (some ⟨b, off, none⟩)) (c : V.Comp) (hc : CompWf c) (hr : w.rangeAt b off (qb c))
  (h : wpList Tryz.prog ops Q rest (a.put o.dst (.agg (ccells c))) w) : wpList Tryz.prog ops Q (o :: rest) a w := by
 obtain ⟨d, hu, hd⟩ := zh5
 exact wpList_load_mid g0 _ x ho b off hx (qb c) d hr hu hd (by rw [zbl]; have := hc.size; unfold ccells at this; simp at this; rw [this]) h
theorem zs4 (w : World) (old cs : Array Value) (t : TypeId) : (w.alloc (.cells old t)).setRow w.heap.size cs = w.alloc (.cells cs t) := by
 have e : ((w.alloc (.cells old t)).setRow w.heap.size cs).heap = (w.alloc (.cells cs t)).heap := by
  apply Array.ext_getElem?
  intro i
  show ((w.heap.push _).modify w.heap.size _)[i]? = (w.heap.push _)[i]?
  rw [Array.getElem?_modify, Array.getElem?_push, Array.getElem?_push]
  by_cases h : i = w.heap.size
  ·subst h; simp
  ·rw [if_neg h, if_neg h, if_neg (Ne.symm h)]
 show ({ (w.alloc (.cells old t)).setRow w.heap.size cs with heap := ((w.alloc (.cells old t)).setRow w.heap.size cs).heap } : World) = _
 rw [e]
 rfl
theorem zff {c : V.Comp} : (ccells c).all (·.oneCell') = true := by
 rw [Array.all_eq_true_iff_forall_mem]
 intro v hv
 unfold ccells qb at hv
 simp at hv
 rcases hv with rfl | rfl | rfl | rfl | ⟨n, _, rfl⟩ <;> rfl
theorem zbp {ops : Array Oper} {rest : List Oper} {o : Oper} {a : Act} {w : World} {Q : Exit -> Act -> World -> Prop} (g1 : o.guard = none) (x y : Operand) (ho : o.op = .store 60 x y)
  (old : Array Value) (t : TypeId) (hx : a.eval x = .pointer (some ⟨w.heap.size, 0, none⟩)) (c : V.Comp) (hc : CompWf c) (hy : a.eval y = .agg (ccells c)) (g0 : old.size = 36)
  (h : wpList Tryz.prog ops Q rest (a.put o.dst undef) (w.alloc (.cells (ccells c) t))) : wpList Tryz.prog ops Q (o :: rest) a (w.alloc (.cells old t)) := by
 refine wpList_store_row g1 _ x y ho w.heap.size (ccells c) hx hy t old (heap_alloc_new w _) (by rw [zbl, hc.size]) (by rw [g0, hc.size]) zff ?_
 rw [zs4]; exact h
theorem zg4 {ops : Array Oper} {rest : List Oper} {o : Oper} {a : Act} {w : World} {Q : Exit -> Act -> World -> Prop} (g1 : o.guard = none) (x y : Operand) (ho : o.op = .store 60 x y)
  (g : Nat) (old : Array Value) (t : TypeId) (hg : w.heap[g]? = some (.cells old t (0, 0))) (hx : a.eval x = .pointer (some ⟨g, 0, none⟩)) (c : V.Comp) (hc : CompWf c) (hy : a.eval y = .agg (ccells c)) (g0 : old.size = 36)
  (h : wpList Tryz.prog ops Q rest (a.put o.dst undef) (w.setRow g (ccells c))) : wpList Tryz.prog ops Q (o :: rest) a w :=
 wpList_store_row g1 _ x y ho g (ccells c) hx hy t old hg (by rw [zbl, hc.size]) (by rw [g0, hc.size]) zff h
theorem zha {c : V.Comp} (hc : CompWf c) {w : World} {g : Nat} {t : TypeId} (hg : w.heap[g]? = some (.cells (ccells c) t (0, 0))) : (loadVar 60 ⟨g, 0, none⟩).run Tryz.prog w = .ok (.agg (ccells c)) w := by
 obtain ⟨d, hu, hd⟩ := zh5
 exact run_loadVar_row w g t _ (ccells c) (0, 0) d hg hu (by cases d <;> first | rfl | cases hd) (by rw [zbl, hc.size])
def zfi : V.Comp := ⟨0, 0, [], [], List.replicate 32 0⟩
theorem zp1 : CompWf zfi := ⟨by decide, by decide, by decide, by decide, by decide, by decide⟩
theorem zqy : (#[.int .i64 0, .int .i64 0, .string ⟨#[]⟩, .string ⟨#[]⟩, Value.int .u8 0, Value.int .u8 0, Value.int .u8 0, Value.int .u8 0, Value.int .u8 0, Value.int .u8 0, Value.int .u8 0, Value.int .u8 0, Value.int .u8 0, Value.int .u8 0, Value.int .u8 0, Value.int .u8 0, Value.int .u8 0, Value.int .u8 0, Value.int .u8 0, Value.int .u8 0, Value.int .u8 0, Value.int .u8 0, Value.int .u8 0, Value.int .u8 0, Value.int .u8 0, Value.int .u8 0, Value.int .u8 0, Value.int .u8 0, Value.int .u8 0, Value.int .u8 0, Value.int .u8 0, Value.int .u8 0, Value.int .u8 0, Value.int .u8 0, Value.int .u8 0, Value.int .u8 0] : Array Value) = ccells zfi := rfl
theorem ztu {c : V.Comp} {w : World} {g : Nat} {t : TypeId} (hg : w.heap[g]? = some (.cells (ccells c) t (0, 0))) : w.rangeAt g 0 (qb c) := fun j v hv => by
 rw [Nat.zero_add, cell_of_row w g j (ccells c) t (0, 0) hg]
 unfold ccells
 simpa using hv
theorem zi {w w' : World} {b o : Nat} {l : List Value} (h : w.rangeAt b o l) (hb : Below w.heap.size w w') : w'.rangeAt b o l := fun j v hv => by
 have := h j v hv
 exact (hb.cell (p := ⟨b, o + j, none⟩) (World.block_lt_of_cell? _ _ this)).trans this
theorem wf_rng {n : Int} (h : (Lit.int .i64 n).wf = true) : -9223372036854775808 ≤ n /\ n ≤ 9223372036854775807 := by
 simpa [Lit.wf, IntKind.min, IntKind.max, IntKind.signed, IntKind.bits] using h
theorem zyg {P : Prop} (h : P := by
 rintro e w2 ⟨rfl, hb2⟩
 have HB2 := zu9 HB1 hb2
 clear hb2
 go_wp2
 go_ret
 exact ⟨ze (by rw [HD.out]; rfl), HB2.out⟩) : P := h
theorem zko (c : V.Comp) (w : World) (hm : zj w) (hc : CompWf c) :
  Calls Tryz.prog 66 #[cval c] w fun e w' => e = .returned (.bool (V.xq c)) /\ Below w.heap.size w w' := by
 have HM := zu8 hm
 have HC := zu8 hc
 have h1 := zjq c
 have h2 := zj7 c
 have h3 := zjl c
 have HD : Hid (V.xq c = (V.jo c.name && V.valid c.sch c.ver)) := rfl
 have hn := zu8 hc.name
 have hv := zu8 hc.ver
 clear hm hc
 unfold cval
 generalize ccells c = cs at *
 generalize V.xq c = r at *
 obtain ⟨par, sch, name, ver, dig⟩ := c
 simp only at *
 go_enter Tryz.func66, Tryz.ntmps66
 go_wp2_with fail
 refine (zpa _ _ (HM.out.below ((zvb _ w).alloc (zva _) _)) (by show name.toArray.size ≤ _; simpa using hn.out)).mono ?_
 rintro e w1 ⟨rfl, hb1⟩
 have g0 := (zvb w.heap.size w).alloc (zva _) (.cells cs 60)
 have HB1 := zu8 (g0.trans (hb1.mono g0.size))
 have hc1 : w1.cell? ⟨w.heap.size, 1, none⟩ = some (.int .i64 sch) := by rw [hb1.cell (p := ⟨w.heap.size, 1, none⟩) (by simp), World.cell?_alloc_new]; exact h1
 have g1 : w1.cell? ⟨w.heap.size, 3, none⟩ = some (.string ⟨ver.toArray⟩) := by rw [hb1.cell (p := ⟨w.heap.size, 3, none⟩) (by simp), World.cell?_alloc_new]; exact h3
 clear g0 hb1 h1 h2 h3
 rw [za5]
 rcases hp : V.jo name with _ | _
 ·have HP := zu8 hp
  rw [hp] at HD
  clear hp
  go_wp2
  go_ret
  exact ⟨ze HD.out.symm, HB1.out⟩
 ·have HP := zu8 hp
  rw [hp] at HD
  clear hp
  go_wp2_with fail
  refine (zgh _ _ _ (HM.out.below HB1.out) (by show ver.toArray.size ≤ _; simpa using hv.out)).mono ?_
  exact zyg
open Go.RowKit
def PickPost (b k : Nat) (l : List V.Bs) (w : World) (e : Ending) (w' : World) : Prop :=
 ∃ x, x ∈ l /\ e = .returned (.string ⟨x.toArray⟩) /\ Tape w' b (k + 1) /\ w.grownBy w' (some b)
theorem zao (b k : Nat) (w : World) (a : Addr) (cap : Nat) (l : List V.Bs) (h : Tape w b k) (hk : k ≤ 1000000) (hl : 0 < l.length) (g4 : l.length ≤ 1000) (g0 : a.block ≠ b) (hs : a.spot = none)
  (hc : ∀ j, j < l.length -> w.cell? ⟨a.block, a.off + j, none⟩ = some (.string ⟨(l.getD j []).toArray⟩)) :
  Calls Tryz.prog 23 #[.pointer (some ⟨b, 0, none⟩), .slice (some a) l.length cap] w (PickPost b k l w) := by
 have HC := zu8 hc
 have HT := zu8 h
 have g3 := zu8 g0
 obtain ⟨ab, ao, asp⟩ := a
 simp only at hs
 subst hs
 clear hc h g0
 go_enter Tryz.func23, Tryz.ntmps23
 go_wp2_with fail
 refine (jq b k l.length _ HT.out (by omega) (by omega) (by omega)).mono ?_
 rintro e w1 ⟨r, hr, rfl, ht1, hg1⟩
 have g1 : r < l.length := by omega
 have hcell := hg1.cell (HC.out r g1) (by intro e; cases e; exact g3.out rfl)
 have HT1 := zu8 ht1
 have HG1 := zu8 hg1
 have g2 : Hid (l.getD r [] ∈ l) := zu8 (by rw [List.getD_eq_getElem?_getD, List.getElem?_eq_getElem g1]; exact List.getElem_mem _)
 clear ht1 hg1 hr
 generalize l.getD r [] = x at *
 go_wp2
 go_ret
 exact ⟨x, g2.out, rfl, HT1.out, HG1.out⟩
def zmt : List V.Bs := [[49, 46, 48, 46, 48], [49, 46, 50, 46, 48], [49, 46, 50, 46, 51], [50, 46, 48, 46, 48, 45, 114, 99, 46, 49], [50, 46, 48, 46, 48], [50, 46, 48, 46, 48, 43, 98], [48, 46, 57, 46, 48], [49, 46, 49, 48, 46, 48], [49, 46, 48, 46, 48, 45, 97, 108, 112, 104, 97]]
def zm1 : List V.Bs := [[49, 46, 48], [49, 46, 48, 45, 49], [49, 46, 48, 126, 114, 99, 49], [49, 58, 48, 46, 53], [49, 46, 48, 48], [50, 46, 48], [49, 46, 48, 45, 49, 46, 49], [49, 46, 48, 43, 98], [48, 58, 49, 46, 48]]
def zmy : List V.Bs := [[49], [49, 46, 48], [49, 46, 50], [49, 46, 49, 48], [50], [48, 49], [48, 46, 57], [49, 46, 48, 46, 49]]
def VerPost (b k : Nat) (n : Int) (w : World) (e : Ending) (w' : World) : Prop :=
 ∃ x : V.Bs, V.valid n x = true /\ e = .returned (.string ⟨x.toArray⟩) /\ Tape w' b (k + 1) /\ w.grownBy w' (some b)
theorem zv4 {P : Prop} (h : P := by
 rintro e w1 ⟨x, hx, rfl, ht1, hg1⟩
 have HX := zu8 (HL.out x hx)
 have HT1 := zu8 ht1
 have HG1 := zu8 (World.grownBy.trans (World.grownBy_alloc w _ (some b)) hg1)
 clear hx ht1 hg1
 go_wp2
 go_ret
 exact ⟨x, HX.out, rfl, HT1.out, HG1.out⟩) : P := h
theorem zwy {P : Prop} (h : P := by
 intro j; rcases j with ⟨j, hj⟩
 have h9 : j = 0 ∨ j = 1 ∨ j = 2 ∨ j = 3 ∨ j = 4 ∨ j = 5 ∨ j = 6 ∨ j = 7 ∨ j = 8 := by omega
 rcases h9 with rfl | rfl | rfl | rfl | rfl | rfl | rfl | rfl | rfl <;> rfl) : P := h
theorem za4 (b k : Nat) (n : Int) (w : World) (h : Tape w b k) (hk : k ≤ 1000000) (hn : V.scheme n = true) :
  Calls Tryz.prog 26 #[.pointer (some ⟨b, 0, none⟩), .int .i64 n] w (VerPost b k n w) := by
 have HT := zu8 h
 have hs : n = 1 ∨ n = 2 ∨ n = 3 := by unfold V.scheme at hn; simpa [or_assoc] using hn
 clear h hn
 rcases hs with rfl | rfl | rfl
 ·have HL : Hid (∀ x ∈ zmt, V.valid 1 x = true) := zu8 (by decide +kernel)
  go_enter Tryz.func26, Tryz.ntmps26
  go_wp2_with fail
  refine (zao b k _ ⟨w.heap.size, 0, none⟩ 9 zmt ((HT.out.below ((zvb _ w).alloc (zva _) _))) (by omega) (by decide) (by decide) (by have := HT.out.lt; simp; omega) rfl (fun j hj => by
    rw [World.cell?_alloc_new, Nat.zero_add]
    have : ∀ j : Fin 9, (#[Value.string ⟨#[49, 46, 48, 46, 48]⟩, Value.string ⟨#[49, 46, 50, 46, 48]⟩, Value.string ⟨#[49, 46, 50, 46, 51]⟩, Value.string ⟨#[50, 46, 48, 46, 48, 45, 114, 99, 46, 49]⟩, Value.string ⟨#[50, 46, 48, 46, 48]⟩, Value.string ⟨#[50, 46, 48, 46, 48, 43, 98]⟩, Value.string ⟨#[48, 46, 57, 46, 48]⟩, Value.string ⟨#[49, 46, 49, 48, 46, 48]⟩, Value.string ⟨#[49, 46, 48, 46, 48, 45, 97, 108, 112, 104, 97]⟩])[j.val]? = some (Value.string ⟨(zmt.getD j.val []).toArray⟩) := by
      exact zwy
    exact this ⟨j, hj⟩)).mono ?_
  exact zv4
 ·have HL : Hid (∀ x ∈ zm1, V.valid 2 x = true) := zu8 (by decide +kernel)
  go_enter Tryz.func26, Tryz.ntmps26
  go_wp2_with fail
  refine (zao b k _ ⟨w.heap.size, 0, none⟩ 9 zm1 ((HT.out.below ((zvb _ w).alloc (zva _) _))) (by omega) (by decide) (by decide) (by have := HT.out.lt; simp; omega) rfl (fun j hj => by
    rw [World.cell?_alloc_new, Nat.zero_add]
    have : ∀ j : Fin 9, (#[Value.string ⟨#[49, 46, 48]⟩, Value.string ⟨#[49, 46, 48, 45, 49]⟩, Value.string ⟨#[49, 46, 48, 126, 114, 99, 49]⟩, Value.string ⟨#[49, 58, 48, 46, 53]⟩, Value.string ⟨#[49, 46, 48, 48]⟩, Value.string ⟨#[50, 46, 48]⟩, Value.string ⟨#[49, 46, 48, 45, 49, 46, 49]⟩, Value.string ⟨#[49, 46, 48, 43, 98]⟩, Value.string ⟨#[48, 58, 49, 46, 48]⟩])[j.val]? = some (Value.string ⟨(zm1.getD j.val []).toArray⟩) := by
      exact zwy
    exact this ⟨j, hj⟩)).mono ?_
  exact zv4
 ·have HL : Hid (∀ x ∈ zmy, V.valid 3 x = true) := zu8 (by decide +kernel)
  go_enter Tryz.func26, Tryz.ntmps26
  go_wp2_with fail
  refine (zao b k _ ⟨w.heap.size, 0, none⟩ 8 zmy ((HT.out.below ((zvb _ w).alloc (zva _) _))) (by omega) (by decide) (by decide) (by have := HT.out.lt; simp; omega) rfl (fun j hj => by
    rw [World.cell?_alloc_new, Nat.zero_add]
    have : ∀ j : Fin 8, (#[Value.string ⟨#[49]⟩, Value.string ⟨#[49, 46, 48]⟩, Value.string ⟨#[49, 46, 50]⟩, Value.string ⟨#[49, 46, 49, 48]⟩, Value.string ⟨#[50]⟩, Value.string ⟨#[48, 49]⟩, Value.string ⟨#[48, 46, 57]⟩, Value.string ⟨#[49, 46, 48, 46, 49]⟩])[j.val]? = some (Value.string ⟨(zmy.getD j.val []).toArray⟩) := by
      intro j; rcases j with ⟨j, hj⟩
      have h9 : j = 0 ∨ j = 1 ∨ j = 2 ∨ j = 3 ∨ j = 4 ∨ j = 5 ∨ j = 6 ∨ j = 7 := by omega
      rcases h9 with rfl | rfl | rfl | rfl | rfl | rfl | rfl | rfl <;> rfl
    exact this ⟨j, hj⟩)).mono ?_
  exact zv4
open Go.RowKit
def Nums (w : World) (a : Option Addr) (m : Nat) : Prop :=
 m ≤ maxLen /\ ∀ j, j < m -> ∃ b' off x, a = some ⟨b', off, none⟩ /\ b' < w.heap.size /\ w.cell? ⟨b', off + j, none⟩ = some (.int .i64 x) /\ (Lit.int .i64 x).wf = true
theorem Tape.made {w w' : World} {a : Option Addr} {m cap b : Nat} (h : Nums w a m) (hb : Below w.heap.size w w') (hlt : w.heap.size ≤ b) (c0 : w'.cell? ⟨b, 0, none⟩ = some (.slice a m cap)) (c1 : w'.cell? ⟨b, 1, none⟩ = some (.int .i64 0)) (hf : w'.frozen? ⟨b, 1, none⟩ = false) : Tape w' b 0 := by
 obtain ⟨hm, hx⟩ := h
 refine ⟨a, m, cap, 0, c0, c1, zva _, hm, hf, fun j hj => ?_⟩
 obtain ⟨b', off, x, rfl, h1, h2, h3⟩ := hx j hj
 exact ⟨b', off, x, rfl, Nat.lt_of_lt_of_le h1 hb.size, by omega, (hb.cell (p := ⟨b', off + j, none⟩) h1).trans h2, h3⟩
theorem zh7 (w : World) (b o b' o' : Nat) (u : Value) (h : ∃ v, w.cell? ⟨b, o, none⟩ = some v) : (w.setCell ⟨b, o, none⟩ u).cell? ⟨b', o', none⟩ = if b' = b /\ o' = o then some u else w.cell? ⟨b', o', none⟩ := by
 obtain ⟨v, hv⟩ := h
 split
 ·rename_i h; obtain ⟨rfl, rfl⟩ := h; exact World.cell?_setCell_same _ _ _ hv
 ·rename_i h
  exact World.cell?_setCell_other _ _ _ _ (by intro e; injection e with e1 e2; exact h ⟨e1.symm, e2.symm⟩)
theorem Tape.set {w : World} {b k b' o : Nat} {u u0 : Value} (h : Tape w b k) (g0 : b' ≠ b) (hc : w.cell? ⟨b', o, none⟩ = some u0) (hu : ∀ kk x, u0 ≠ .int kk x) : Tape (w.setCell ⟨b', o, none⟩ u) b k := by
 obtain ⟨a, m, cap, p, c0, c1, hp, hm, hf, hx⟩ := h
 have e := fun b2 o2 => zh7 w b' o b2 o2 u ⟨_, hc⟩
 refine ⟨a, m, cap, p, ?_, ?_, hp, hm, by simp only [World.frozen?_setCell]; exact hf, fun j hj => ?_⟩
 ·rw [e, if_neg (fun g => g0 g.1.symm)]; exact c0
 ·rw [e, if_neg (fun g => g0 g.1.symm)]; exact c1
 ·obtain ⟨b2, off, x, rfl, h1, h2, h3, h4⟩ := hx j hj
  refine ⟨b2, off, x, rfl, by simpa [World.setCell] using h1, h2, ?_, h4⟩
  rw [e, if_neg]
  ·exact h3
  ·rintro ⟨rfl, rfl⟩
   rw [hc] at h3
   exact hu _ _ (Option.some.inj h3)
def zn (l : List Int) : List Value := l.map fun n => Value.int .u8 n
def dcells (l : List Int) : Array Value := (zn l).toArray
theorem yj : (Tryz.prog.info? 26).map (·.size) = some 32 := by kernel_rfl
theorem zfs {l : List Int} : (dcells l).all (·.oneCell') = true := by
 rw [Array.all_eq_true_iff_forall_mem]
 intro v hv
 unfold dcells zn at hv
 simp at hv
 obtain ⟨n, _, rfl⟩ := hv
 rfl
theorem ji {l : List Int} (h : l.length = 32) : (dcells l).size = 32 := by unfold dcells zn; simp [h]
theorem za8 {l : List Int} (h : l.length = 32) {w : World} {g : Nat} {t : TypeId} (hg : w.heap[g]? = some (.cells (dcells l) t (0, 0))) : (loadVar 26 ⟨g, 0, none⟩).run Tryz.prog w = .ok (.agg (dcells l)) w :=
 run_loadVar_row w g t _ (dcells l) (0, 0) _ hg Tryz.underlying26 rfl (by rw [yj, ji h])
theorem zj1 (w : World) (b o : Nat) (vs : List Value) : w.grownBy (w.setCells b o vs) (some b) := by
 have h := World.keptBut_setCells b (may := fun _ => True) vs o w (fun _ _ => trivial)
 refine ⟨World.os_setCells w b o vs, ?_, World.output_setCells w b o vs, ?_, fun k hk g0 => World.heap_setCells_other w b o vs hk (fun e => g0 (by rw [e]))⟩
 all_goals clear h
 ·induction vs generalizing o w with
  | nil => rfl
  | cons v vs ih => unfold World.setCells; rw [ih]; rfl
 ·induction vs generalizing o w with
  | nil => exact zva _
  | cons v vs ih =>
   unfold World.setCells
   refine Nat.le_trans ?_ (ih _ _)
   simp [World.setCell]
theorem zak {w w1 w2 : World} {row : Option Nat} {g : Nat} (h : w.grownBy w1 row) (h2 : w1.grownBy w2 (some g)) (hg : w.heap.size ≤ g) : w.grownBy w2 row :=
 ⟨h2.os.trans h.os, h2.tape.trans h.tape, h2.output.trans h.output, Nat.le_trans h.size h2.size, fun k hk g0 => (h2.block k (Nat.lt_of_lt_of_le hk h.size) (by simp; omega)).trans (h.block k hk g0)⟩
def zq : List Int := List.replicate 32 0
theorem zir : (#[.int .u8 0, .int .u8 0, .int .u8 0, .int .u8 0, .int .u8 0, .int .u8 0, .int .u8 0, .int .u8 0, .int .u8 0, .int .u8 0, .int .u8 0, .int .u8 0, .int .u8 0, .int .u8 0, .int .u8 0, .int .u8 0, .int .u8 0, .int .u8 0, .int .u8 0, .int .u8 0, .int .u8 0, .int .u8 0, .int .u8 0, .int .u8 0, .int .u8 0, .int .u8 0, .int .u8 0, .int .u8 0, .int .u8 0, .int .u8 0, .int .u8 0, .int .u8 0] : Array Value) = dcells zq := rfl
theorem zk9 {c : V.Comp} (hc : CompWf c) {w : World} {C : Nat} {t : TypeId} (hg : w.heap[C]? = some (.cells (ccells c) t (0, 0))) : w.there C 4 32 := fun j hj => by
 refine ⟨?_, frozen_of_row w C _ _ _ hg⟩
 rw [cell_of_row w C _ _ _ _ hg, Array.getElem?_eq_getElem (by rw [hc.size]; omega)]
 rfl
theorem zuy {c : V.Comp} (hc : CompWf c) {w : World} {C : Nat} {t : TypeId} (hg : w.heap[C]? = some (.cells (ccells c) t (0, 0))) {d : List Int} (hd : d.length = 32) :
  (w.setCells C 4 (dcells d).toList).rangeAt C 0 (qb { c with dig := d }) := fun j v hv => by
 rw [Nat.zero_add]
 have hl : (dcells d).toList.length = 32 := by rw [Array.length_toList, ji hd]
 by_cases h4 : j < 4
 ·rw [World.cell?_setCells_out C _ 4 w ⟨C, j, none⟩ (fun _ _ => .inl h4), cell_of_row w C j _ _ _ hg]
  have e : (ccells c)[j]? = (qb { c with dig := d })[j]? := by
   have h : j = 0 ∨ j = 1 ∨ j = 2 ∨ j = 3 := by omega
   rcases h with rfl | rfl | rfl | rfl <;> rfl
  rw [e, hv]
 ·have h := World.rangeAt_setCells_same w C 4 (dcells d).toList (by rw [hl]; exact zk9 hc hg)
  have hj : (dcells d).toList[j - 4]? = some v := by
   have e : (qb { c with dig := d })[j]? = (zn d)[j - 4]? := by
    obtain ⟨i, rfl⟩ : ∃ i, j = i + 4 := ⟨j - 4, by omega⟩
    rfl
   exact e.symm.trans hv
  have := h (j - 4) v hj
  rwa [show 4 + (j - 4) = j by omega] at this
theorem zm2 {ops : Array Oper} {rest : List Oper} {o : Oper} {a : Act} {w : World} {Q : Exit -> Act -> World -> Prop} (g0 : o.guard = none) (x y : Operand) (ho : o.op = .store 26 x y)
  (b off : Nat) (l : List Int) (hl : l.length = 32) (hx : a.eval x = .pointer (some ⟨b, off, none⟩)) (hy : a.eval y = .agg (dcells l)) (ht : w.there b off 32)
  (W : World) (hW : W = w.setCells b off (dcells l).toList) (h : wpList Tryz.prog ops Q rest (a.put o.dst undef) W) : wpList Tryz.prog ops Q (o :: rest) a w := by
 subst hW
 exact wpList_store_mid g0 _ x y ho b off (dcells l) hx hy (by rw [ji hl]; exact ht) (by rw [yj, ji hl]) zfs h
theorem compIE : ∃ ie z, Tryz.prog.info? 60 = some ie /\ ie.size = 36 /\ ie.zero = some z := by
 have h : (match Tryz.prog.info? 60 with | some i => i.size == 36 && i.zero.isSome | none => false) = true := by kernel_rfl
 cases hq : Tryz.prog.info? 60 with
 | none => rw [hq] at h; cases h
 | some i =>
  rw [hq] at h
  simp only [Bool.and_eq_true, beq_iff_eq] at h
  obtain ⟨z, hz⟩ := Option.isSome_iff_exists.1 h.2
  exact ⟨i, z, rfl, h.1, hz⟩
def dig1 (x : Int) : List Int := x :: List.replicate 31 0
def SumPost (b k : Nat) (w : World) (e : Ending) (w' : World) : Prop :=
 ∃ x : Nat, 1 ≤ x /\ x ≤ 6 /\ e = .returned (.agg (dcells (dig1 x))) /\ Tape w' b (k + 1) /\ w.grownBy w' (some b)
theorem zsk (b k : Nat) (w : World) (h : Tape w b k) (hk : k ≤ 1000000) :
  Calls Tryz.prog 34 #[.pointer (some ⟨b, 0, none⟩)] w (SumPost b k w) := by
 have HT := zu8 h
 have hbw := h.lt
 clear h
 go_enter Tryz.func34, Tryz.ntmps34
 go_wp2_with fail
 rw [zir]
 obtain ⟨W0, hW0⟩ : ∃ W0, W0 = w.alloc (.cells (dcells zq) 26) := ⟨_, rfl⟩
 have g1 : W0.heap[w.heap.size]? = some (.cells (dcells zq) 26 (0, 0)) := by rw [hW0]; exact heap_alloc_new w _
 have g3 : W0.heap.size = w.heap.size + 1 := by rw [hW0]; simp
 have g0 : Below w.heap.size w W0 := by rw [hW0]; exact (zvb _ w).alloc (zva _) _
 rw [← hW0]
 clear hW0
 refine (jq b k 6 _ (HT.out.below g0) (by omega) (by omega) (by omega)).mono ?_
 rintro e w1 ⟨r, hr, rfl, ht1, hg1⟩
 have HG1 := zu8 (World.grownBy.trans (zm g0 (some b)) hg1)
 have HT1 := zu8 ht1
 have g2 : Hid (w1.heap[w.heap.size]? = some (.cells (dcells zq) 26 (0, 0))) := zu8 ((hg1.block _ (by omega) (by simp; omega)).trans g1)
 have g4 : IntKind.u8.wrap (1 + (r : Int)) = 1 + (r : Int) := by rw [IntKind.wrap_u8]; omega
 have g5 : w.heap.size < w1.heap.size := Nat.lt_of_lt_of_le (by omega) hg1.size
 clear g1 g3 g0 ht1 hg1
 go_wp2_with (first | (refine wpList_store_row rfl _ _ _ rfl w.heap.size (dcells (dig1 (1 + (r : Int)))) rfl rfl 26 _ g2.out (by rw [yj]; rfl) rfl zfs ?_) | fail)
 refine bodyPost_ret (v := .agg (dcells (dig1 (1 + (r : Int))))) ?_ rfl ⟨r + 1, by omega, by omega, ?_, ?_, ?_⟩
 ·exact qp Tryz.results34 rfl (za8 rfl (setRow_heap w1 w.heap.size _ _ _ _ g2.out))
 ·rw [show (1 + (r : Int)) = ((r + 1 : Nat) : Int) by omega]
 ·refine Tape.grown HT1.out (row := some w.heap.size) ?_ (by simp; omega) (by intro b' e; cases e; omega)
  exact zz _ _ _
 ·exact zak HG1.out (zz _ _ _) (zva _)
end Go.Proofs.YtbikeahmldobkaaGreatDoor
