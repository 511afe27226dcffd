/-
  Walks: versions of a scheme valid.
  Components as values; walks: schemes, their names, component.
-/
import Derived.Test.YtnhfaincdabdkaaGreatDoorD1
import Derived.Test.YtnhfaincdabdkaaGreatDoorD0
import Derived.Test.YtnhfaincdabdkaaGreatDoorL4
import Derived.Test.YtnhfaincdabdkaaGreatDoorL2
import Derived.Test.YtnhfaincdabdkaaGreatDoorJP
import Derived.Deep.MidRow
namespace Go.Proofs.YtnhfaincdabdkaaGreatDoor
open Go.RowKit

theorem meth_valid1 (k : Nat) (w : World) : (method (k + 1) 190 (.agg #[]) "admission/version.valid").run Tryz.prog w = .ok (257, .agg #[]) w := by kernel_rfl
theorem meth_valid2 (k : Nat) (w : World) : (method (k + 1) 191 (.agg #[]) "admission/version.valid").run Tryz.prog w = .ok (283, .agg #[]) w := by kernel_rfl
theorem meth_valid3 (k : Nat) (w : World) : (method (k + 1) 192 (.agg #[]) "admission/version.valid").run Tryz.prog w = .ok (295, .agg #[]) w := by kernel_rfl
set_option maxHeartbeats 400000 in
theorem of1_any (w : World) : Calls Tryz.prog 124 #[.int .i64 1] w fun e w' => e = .returned (.iface 190 (.agg #[])) ∧ w = w' := by
  go_enter Tryz.func124, Tryz.ntmps124
  go_wp2
  go_ret
  exact ⟨rfl, rfl⟩

set_option maxHeartbeats 400000 in
theorem of2_any (w : World) : Calls Tryz.prog 124 #[.int .i64 2] w fun e w' => e = .returned (.iface 191 (.agg #[])) ∧ w = w' := by
  go_enter Tryz.func124, Tryz.ntmps124
  go_wp2
  go_ret
  exact ⟨rfl, rfl⟩

set_option maxHeartbeats 400000 in
theorem of3_any (w : World) : Calls Tryz.prog 124 #[.int .i64 3] w fun e w' => e = .returned (.iface 192 (.agg #[])) ∧ w = w' := by
  go_enter Tryz.func124, Tryz.ntmps124
  go_wp2
  go_ret
  exact ⟨rfl, rfl⟩

set_option maxHeartbeats 400000 in
theorem of0_any (n : Int) (h1 : n ≠ 1) (h2 : n ≠ 2) (h3 : n ≠ 3) (w : World) : Calls Tryz.prog 124 #[.int .i64 n] w fun e w' => e = .returned .nilIface ∧ w = w' := by
  have b1 : (n == 1) = false := by simpa using h1
  have b2 : (n == 2) = false := by simpa using h2
  have b3 : (n == 3) = false := by simpa using h3
  go_enter Tryz.func124, Tryz.ntmps124
  go_wp2
  go_ret
  exact ⟨rfl, rfl⟩

set_option maxRecDepth 100000 in
set_option maxHeartbeats 1600000 in
theorem valid1_any (s : ByteArray) (w : World) (hm : MaxOk w) (hs : s.size ≤ maxLen) :
    Calls Tryz.prog 84 #[.int .i64 1, .string s] w fun e w' => e = .returned (.bool (V.valid 1 s.data.toList)) ∧ Below w.heap.size w w' := by
  unfold maxLen at hs
  have hmeth := meth_valid1
  by_cases h1 : 1 ≤ s.size
  · have b1 : (1 : Int) ≤ (s.size : Int) := by omega
    by_cases h2 : s.size ≤ 64
    · have HF : Hid (V.valid 1 s.data.toList = (V.semParse s.data.toList).isSome) := Lib.hid (by unfold V.valid V.schOk; rw [bs_size]; simp [h1, h2])
      have b2 : (s.size : Int) ≤ 64 := by omega
      go_enter Tryz.func84, Tryz.ntmps84
      go_wp2_with fail
      refine (of1_any _).mono ?_
      rintro e w' ⟨rfl, rfl⟩
      go_wp2_with fail
      refine (semValid_any s _ hm (by omega)).mono ?_
      rintro e w1 ⟨rfl, hb⟩
      go_wp2
      go_ret
      exact ⟨ret_bool (by rw [HF.out]), hb⟩
    · have HF : Hid (V.valid 1 s.data.toList = false) := Lib.hid (by unfold V.valid; rw [bs_size]; simp [h2])
      have b2 : ¬ (s.size : Int) ≤ 64 := by omega
      go_enter Tryz.func84, Tryz.ntmps84
      go_wp2_with fail
      refine (of1_any _).mono ?_
      rintro e w' ⟨rfl, rfl⟩
      go_wp2
      go_ret
      exact ⟨ret_bool HF.out.symm, Below.refl _ _⟩
  · have HF : Hid (V.valid 1 s.data.toList = false) := Lib.hid (by unfold V.valid; rw [bs_size]; simp [h1])
    have b1 : ¬ (1 : Int) ≤ (s.size : Int) := by omega
    go_enter Tryz.func84, Tryz.ntmps84
    go_wp2_with fail
    refine (of1_any _).mono ?_
    rintro e w' ⟨rfl, rfl⟩
    go_wp2
    go_ret
    exact ⟨ret_bool HF.out.symm, Below.refl _ _⟩

set_option maxRecDepth 100000 in
set_option maxHeartbeats 1600000 in
theorem valid2_any (s : ByteArray) (w : World) (hm : MaxOk w) (hs : s.size ≤ maxLen) :
    Calls Tryz.prog 84 #[.int .i64 2, .string s] w fun e w' => e = .returned (.bool (V.valid 2 s.data.toList)) ∧ Below w.heap.size w w' := by
  unfold maxLen at hs
  have hmeth := meth_valid2
  by_cases h1 : 1 ≤ s.size
  · have b1 : (1 : Int) ≤ (s.size : Int) := by omega
    by_cases h2 : s.size ≤ 64
    · have HF : Hid (V.valid 2 s.data.toList = (V.debParse s.data.toList).isSome) := Lib.hid (by unfold V.valid V.schOk; rw [bs_size]; simp [h1, h2])
      have b2 : (s.size : Int) ≤ 64 := by omega
      go_enter Tryz.func84, Tryz.ntmps84
      go_wp2_with fail
      refine (of2_any _).mono ?_
      rintro e w' ⟨rfl, rfl⟩
      go_wp2_with fail
      refine (debValid_any s _ hm (by omega)).mono ?_
      rintro e w1 ⟨rfl, hb⟩
      go_wp2
      go_ret
      exact ⟨ret_bool (by rw [HF.out]), hb⟩
    · have HF : Hid (V.valid 2 s.data.toList = false) := Lib.hid (by unfold V.valid; rw [bs_size]; simp [h2])
      have b2 : ¬ (s.size : Int) ≤ 64 := by omega
      go_enter Tryz.func84, Tryz.ntmps84
      go_wp2_with fail
      refine (of2_any _).mono ?_
      rintro e w' ⟨rfl, rfl⟩
      go_wp2
      go_ret
      exact ⟨ret_bool HF.out.symm, Below.refl _ _⟩
  · have HF : Hid (V.valid 2 s.data.toList = false) := Lib.hid (by unfold V.valid; rw [bs_size]; simp [h1])
    have b1 : ¬ (1 : Int) ≤ (s.size : Int) := by omega
    go_enter Tryz.func84, Tryz.ntmps84
    go_wp2_with fail
    refine (of2_any _).mono ?_
    rintro e w' ⟨rfl, rfl⟩
    go_wp2
    go_ret
    exact ⟨ret_bool HF.out.symm, Below.refl _ _⟩

set_option maxRecDepth 100000 in
set_option maxHeartbeats 1600000 in
theorem valid3_any (s : ByteArray) (w : World) (_hm : MaxOk w) (hs : s.size ≤ maxLen) :
    Calls Tryz.prog 84 #[.int .i64 3, .string s] w fun e w' => e = .returned (.bool (V.valid 3 s.data.toList)) ∧ Below w.heap.size w w' := by
  unfold maxLen at hs
  have hmeth := meth_valid3
  by_cases h1 : 1 ≤ s.size
  · have b1 : (1 : Int) ≤ (s.size : Int) := by omega
    by_cases h2 : s.size ≤ 64
    · have HF : Hid (V.valid 3 s.data.toList = V.dotOk s.data.toList) := Lib.hid (by unfold V.valid V.schOk; rw [bs_size]; simp [h1, h2])
      have b2 : (s.size : Int) ≤ 64 := by omega
      go_enter Tryz.func84, Tryz.ntmps84
      go_wp2_with fail
      refine (of3_any _).mono ?_
      rintro e w' ⟨rfl, rfl⟩
      go_wp2_with fail
      refine (dotValid_any s _ (by unfold maxLen; omega)).mono ?_
      rintro e w1 ⟨rfl, hb⟩
      go_wp2
      go_ret
      exact ⟨ret_bool (by rw [HF.out]), hb⟩
    · have HF : Hid (V.valid 3 s.data.toList = false) := Lib.hid (by unfold V.valid; rw [bs_size]; simp [h2])
      have b2 : ¬ (s.size : Int) ≤ 64 := by omega
      go_enter Tryz.func84, Tryz.ntmps84
      go_wp2_with fail
      refine (of3_any _).mono ?_
      rintro e w' ⟨rfl, rfl⟩
      go_wp2
      go_ret
      exact ⟨ret_bool HF.out.symm, Below.refl _ _⟩
  · have HF : Hid (V.valid 3 s.data.toList = false) := Lib.hid (by unfold V.valid; rw [bs_size]; simp [h1])
    have b1 : ¬ (1 : Int) ≤ (s.size : Int) := by omega
    go_enter Tryz.func84, Tryz.ntmps84
    go_wp2_with fail
    refine (of3_any _).mono ?_
    rintro e w' ⟨rfl, rfl⟩
    go_wp2
    go_ret
    exact ⟨ret_bool HF.out.symm, Below.refl _ _⟩

set_option maxRecDepth 100000 in
set_option maxHeartbeats 1600000 in
theorem valid0_any (n : Int) (h1 : n ≠ 1) (h2 : n ≠ 2) (h3 : n ≠ 3) (s : ByteArray) (w : World) :
    Calls Tryz.prog 84 #[.int .i64 n, .string s] w fun e w' => e = .returned (.bool (V.valid n s.data.toList)) ∧ Below w.heap.size w w' := by
  have HF : Hid (V.valid n s.data.toList = false) := Lib.hid (by unfold V.valid V.schOk; simp [h1, h2, h3])
  go_enter Tryz.func84, Tryz.ntmps84
  go_wp2_with fail
  refine (of0_any n h1 h2 h3 _).mono ?_
  rintro e w' ⟨rfl, rfl⟩
  go_wp2
  go_ret
  exact ⟨ret_bool HF.out.symm, Below.refl _ _⟩

theorem valid_any (n : Int) (s : ByteArray) (w : World) (hm : MaxOk w) (hs : s.size ≤ maxLen) :
    Calls Tryz.prog 84 #[.int .i64 n, .string s] w fun e w' => e = .returned (.bool (V.valid n s.data.toList)) ∧ Below w.heap.size w w' := by
  by_cases h1 : n = 1
  · subst h1; exact valid1_any s w hm hs
  · by_cases h2 : n = 2
    · subst h2; exact valid2_any s w hm hs
    · by_cases h3 : n = 3
      · subst h3; exact valid3_any s w hm hs
      · exact valid0_any n h1 h2 h3 s w
end Go.Proofs.YtnhfaincdabdkaaGreatDoor
namespace Go.Proofs.YtnhfaincdabdkaaGreatDoor
open Go.RowKit

/-- the cells of a component -/
def cellsL (c : V.Comp) : List Value := .int .i64 c.par :: .int .i64 c.sch :: .string ⟨c.name.toArray⟩ :: .string ⟨c.ver.toArray⟩ :: c.dig.map (fun n => Value.int .u8 n)
def ccells (c : V.Comp) : Array Value := (cellsL c).toArray
def cval (c : V.Comp) : Value := .agg (ccells c)

/-- a component of the program -/
structure CompWf (c : V.Comp) : Prop where
  par : (Lit.int .i64 c.par).wf = true
  sch : (Lit.int .i64 c.sch).wf = true
  name : c.name.length ≤ maxLen
  ver : c.ver.length ≤ maxLen
  len : c.dig.length = 32
  dig : ∀ n ∈ c.dig, (Lit.int .u8 n).wf = true

theorem ccells_0 (c : V.Comp) : (ccells c)[0]? = some (.int .i64 c.par) := rfl
theorem ccells_1 (c : V.Comp) : (ccells c)[1]? = some (.int .i64 c.sch) := rfl
theorem ccells_2 (c : V.Comp) : (ccells c)[2]? = some (.string ⟨c.name.toArray⟩) := rfl
theorem ccells_3 (c : V.Comp) : (ccells c)[3]? = some (.string ⟨c.ver.toArray⟩) := rfl
theorem CompWf.size {c : V.Comp} (h : CompWf c) : (ccells c).size = 36 := by
  unfold ccells cellsL
  simp [h.len]

theorem compInfo : (Tryz.prog.info? 88).map (·.size) = some 36 := by kernel_rfl
theorem compRow : ∃ d, Tryz.prog.underlying 88 = some d ∧ d.isRow = true := ⟨_, Tryz.underlying88, rfl⟩

/-- a component read where it lies -/
theorem load_comp {c : V.Comp} (hc : CompWf c) {w : World} {b o : Nat} (h : w.rangeAt b o (cellsL c)) :
    (Instr.loadAt 88 (.pointer (some ⟨b, o, none⟩))).run Tryz.prog w = .ok (.agg (ccells c)) w := by
  obtain ⟨d, hu, hd⟩ := compRow
  exact run_loadAt_mid w b o _ (cellsL c) d h hu hd (by rw [compInfo]; have := hc.size; unfold ccells at this; simp at this; rw [this])
theorem range_new (c : V.Comp) (w : World) (t : TypeId) : (w.alloc (.cells (ccells c) t)).rangeAt w.heap.size 0 (cellsL c) := fun j v hv => by
  rw [Nat.zero_add, World.cell?_alloc_new]
  unfold ccells
  simpa using hv
theorem load_new {c : V.Comp} (hc : CompWf c) (w : World) (t : TypeId) : (Instr.loadAt 88 (.pointer (some ⟨w.heap.size, 0, none⟩))).run Tryz.prog (w.alloc (.cells (ccells c) t)) = .ok (.agg (ccells c)) (w.alloc (.cells (ccells c) t)) :=
  load_comp hc (range_new c w t)
/-- at the operation: a component is loaded -/
theorem wl_load {ops : Array Oper} {rest : List Oper} {o : Oper} {a : Act} {w : World} {Q : Exit → Act → World → Prop} (hgd : o.guard = none) (x : Operand) (ho : o.op = .load 88 x)
    (b off : Nat) (hx : a.eval x = .pointer (some ⟨b, off, none⟩)) (c : V.Comp) (hc : CompWf c) (hr : w.rangeAt b off (cellsL c))
    (h : wpList Tryz.prog ops Q rest (a.put o.dst (.agg (ccells c))) w) : wpList Tryz.prog ops Q (o :: rest) a w := by
  obtain ⟨d, hu, hd⟩ := compRow
  exact wpList_load_mid hgd _ x ho b off hx (cellsL c) d hr hu hd (by rw [compInfo]; have := hc.size; unfold ccells at this; simp at this; rw [this]) h
/-- a new block with a component's cells -/
theorem set_new (w : World) (old cs : Array Value) (t : TypeId) : (w.alloc (.cells old t)).setRow w.heap.size cs = w.alloc (.cells cs t) := by
  have e : ((w.alloc (.cells old t)).setRow w.heap.size cs).heap = (w.alloc (.cells cs t)).heap := by
    apply Array.ext_getElem?
    intro i
    show ((w.heap.push _).modify w.heap.size _)[i]? = (w.heap.push _)[i]?
    rw [Array.getElem?_modify, Array.getElem?_push, Array.getElem?_push]
    by_cases h : i = w.heap.size
    · subst h; simp
    · rw [if_neg h, if_neg h, if_neg (Ne.symm h)]
  show ({ (w.alloc (.cells old t)).setRow w.heap.size cs with heap := ((w.alloc (.cells old t)).setRow w.heap.size cs).heap } : World) = _
  rw [e]
  rfl
theorem comp_one {c : V.Comp} : (ccells c).all (·.oneCell') = true := by
  rw [Array.all_eq_true_iff_forall_mem]
  intro v hv
  unfold ccells cellsL at hv
  simp at hv
  rcases hv with rfl | rfl | rfl | rfl | ⟨n, _, rfl⟩ <;> rfl
/-- at the operation: a component is stored into a new block -/
theorem wl_store {ops : Array Oper} {rest : List Oper} {o : Oper} {a : Act} {w : World} {Q : Exit → Act → World → Prop} (hgd : o.guard = none) (x y : Operand) (ho : o.op = .store 88 x y)
    (old : Array Value) (t : TypeId) (hx : a.eval x = .pointer (some ⟨w.heap.size, 0, none⟩)) (c : V.Comp) (hc : CompWf c) (hy : a.eval y = .agg (ccells c)) (ho36 : old.size = 36)
    (h : wpList Tryz.prog ops Q rest (a.put o.dst undef) (w.alloc (.cells (ccells c) t))) : wpList Tryz.prog ops Q (o :: rest) a (w.alloc (.cells old t)) := by
  refine wpList_store_row hgd _ x y ho w.heap.size (ccells c) hx hy t old (heap_alloc_new w _) (by rw [compInfo, hc.size]) (by rw [ho36, hc.size]) comp_one ?_
  rw [set_new]; exact h
/-- at the operation: a component is stored into a block -/
theorem wl_store_at {ops : Array Oper} {rest : List Oper} {o : Oper} {a : Act} {w : World} {Q : Exit → Act → World → Prop} (hgd : o.guard = none) (x y : Operand) (ho : o.op = .store 88 x y)
    (g : Nat) (old : Array Value) (t : TypeId) (hg : w.heap[g]? = some (.cells old t (0, 0))) (hx : a.eval x = .pointer (some ⟨g, 0, none⟩)) (c : V.Comp) (hc : CompWf c) (hy : a.eval y = .agg (ccells c)) (ho36 : old.size = 36)
    (h : wpList Tryz.prog ops Q rest (a.put o.dst undef) (w.setRow g (ccells c))) : wpList Tryz.prog ops Q (o :: rest) a w :=
  wpList_store_row hgd _ x y ho g (ccells c) hx hy t old hg (by rw [compInfo, hc.size]) (by rw [ho36, hc.size]) comp_one h
theorem loadVar_row {c : V.Comp} (hc : CompWf c) {w : World} {g : Nat} {t : TypeId} (hg : w.heap[g]? = some (.cells (ccells c) t (0, 0))) : (loadVar 88 ⟨g, 0, none⟩).run Tryz.prog w = .ok (.agg (ccells c)) w := by
  obtain ⟨d, hu, hd⟩ := compRow
  exact run_loadVar_row w g t _ (ccells c) (0, 0) d hg hu (by cases d <;> first | rfl | cases hd) (by rw [compInfo, hc.size])
theorem setRow_below {B : Nat} {w w1 : World} (h : Below B w w1) {g : Nat} (hg : B ≤ g) (cs : Array Value) : Below B w (w1.setRow g cs) :=
  ⟨h.os, h.tape, h.output, by simp; exact h.size, fun i hi => (setRow_other w1 g i cs (by omega)).trans (h.block i hi)⟩
def zeroC : V.Comp := ⟨0, 0, [], [], List.replicate 32 0⟩
theorem zeroC_wf : CompWf zeroC := ⟨by decide, by decide, by decide, by decide, by decide, by decide⟩
theorem zero_cells : (#[.int .i64 0, .int .i64 0, .string ⟨#[]⟩, .string ⟨#[]⟩, Value.int .u8 0, Value.int .u8 0, Value.int .u8 0, Value.int .u8 0, Value.int .u8 0, Value.int .u8 0, Value.int .u8 0, Value.int .u8 0, Value.int .u8 0, Value.int .u8 0, Value.int .u8 0, Value.int .u8 0, Value.int .u8 0, Value.int .u8 0, Value.int .u8 0, Value.int .u8 0, Value.int .u8 0, Value.int .u8 0, Value.int .u8 0, Value.int .u8 0, Value.int .u8 0, Value.int .u8 0, Value.int .u8 0, Value.int .u8 0, Value.int .u8 0, Value.int .u8 0, Value.int .u8 0, Value.int .u8 0, Value.int .u8 0, Value.int .u8 0, Value.int .u8 0, Value.int .u8 0] : Array Value) = ccells zeroC := rfl
/-- two results: a variable in memory and a slot -/
theorem results_two {P : Program} {fn : Func} {p q : Tmp} {ty : TypeId} (h : fn.results = #[.cell p ty, .tmp q]) {tmps : Array Value} {w : World} {a : Addr} {v u : Value}
    (hp : tmps.getD p undef = .pointer (some a)) (hq : tmps.getD q undef = u) (hl : (loadVar ty a).run P w = .ok v w) : (results fn tmps).run P w = .ok (.tuple #[v, u]) w := by
  have hp' : tmps[p]?.getD undef = .pointer (some a) := by simpa using hp
  have hq' : tmps[q]?.getD undef = u := by simpa using hq
  simp [results, h, hp', hq', asAddr, hl]
/-- one result: a variable in memory -/
theorem results_one {P : Program} {fn : Func} {p : Tmp} {ty : TypeId} (h : fn.results = #[.cell p ty]) {tmps : Array Value} {w : World} {a : Addr} {v : Value}
    (hp : tmps.getD p undef = .pointer (some a)) (hl : (loadVar ty a).run P w = .ok v w) : (results fn tmps).run P w = .ok v w := by
  have hp' : tmps[p]?.getD undef = .pointer (some a) := by simpa using hp
  simp [results, h, hp', asAddr, hl]
/-- a quiet call, as a step of a region that draws -/
theorem step_quiet {P : Program} {ops : Array Oper} {o : Oper} {a : Act} {w : World} {K : Act → World → Prop} {Q : Exit → Act → World → Prop} {E : Prop} (hgd : o.guard = none) (f : FuncId) (args : Array Value) (v : Value)
    (he : (execOp a.eval o).run P w = .ok (.enter f args) w) (hc : Calls P f args w fun e w' => e = .returned v ∧ w' = w) (h : K (a.put o.dst v) w) :
    if Region.wanted o (yielded ops a.tmps) = true then Oper.wp P o a w K Q else E := by
  rw [if_pos (by simp [Region.wanted, hgd])]
  unfold Oper.wp
  rw [he]
  refine hc.mono ?_
  rintro e w' ⟨rfl, rfl⟩
  exact h
theorem lit_cells (p n : Int) (s t : ByteArray) : (#[.int .i64 p, .int .i64 n, .string s, .string t, Value.int .u8 0, Value.int .u8 0, Value.int .u8 0, Value.int .u8 0, Value.int .u8 0, Value.int .u8 0, Value.int .u8 0, Value.int .u8 0, Value.int .u8 0, Value.int .u8 0, Value.int .u8 0, Value.int .u8 0, Value.int .u8 0, Value.int .u8 0, Value.int .u8 0, Value.int .u8 0, Value.int .u8 0, Value.int .u8 0, Value.int .u8 0, Value.int .u8 0, Value.int .u8 0, Value.int .u8 0, Value.int .u8 0, Value.int .u8 0, Value.int .u8 0, Value.int .u8 0, Value.int .u8 0, Value.int .u8 0, Value.int .u8 0, Value.int .u8 0, Value.int .u8 0, Value.int .u8 0] : Array Value) = ccells ⟨p, n, s.data.toList, t.data.toList, List.replicate 32 0⟩ := rfl
theorem range_row {c : V.Comp} {w : World} {g : Nat} {t : TypeId} (hg : w.heap[g]? = some (.cells (ccells c) t (0, 0))) : w.rangeAt g 0 (cellsL c) := fun j v hv => by
  rw [Nat.zero_add, cell_of_row w g j (ccells c) t (0, 0) hg]
  unfold ccells
  simpa using hv
/-- a new component, as a step of a region that draws -/
theorem step_alloc {ops : Array Oper} {o : Oper} {a : Act} {w : World} {K : Act → World → Prop} {Q : Exit → Act → World → Prop} {E : Prop} (hgd : o.guard = none) (ho : o.op = .alloc 88)
    (h : K (a.put o.dst (.pointer (some ⟨w.heap.size, 0, none⟩))) (w.alloc (.cells (ccells zeroC) 88))) :
    if Region.wanted o (yielded ops a.tmps) = true then Oper.wp Tryz.prog o a w K Q else E := by
  rw [if_pos (by simp [Region.wanted, hgd])]
  rw [← zero_cells] at h
  obtain ⟨dst, op, ty, ps, af, gd⟩ := o
  simp only at ho
  subst ho
  simp only at h
  generalize hK' : (fun (a' : Act) (w' : World) => K a' w') = K' at *
  subst hK'
  go_simp
  exact h
/-- a component stored into it -/
theorem step_store {ops : Array Oper} {o : Oper} {a : Act} {w : World} {K : Act → World → Prop} {Q : Exit → Act → World → Prop} {E : Prop} (hgd : o.guard = none) (x y : Operand) (ho : o.op = .store 88 x y)
    (old : Array Value) (t : TypeId) (hx : a.eval x = .pointer (some ⟨w.heap.size, 0, none⟩)) (c : V.Comp) (hc : CompWf c) (hy : a.eval y = .agg (ccells c)) (ho36 : old.size = 36)
    (h : K (a.put o.dst undef) (w.alloc (.cells (ccells c) t))) :
    if Region.wanted o (yielded ops a.tmps) = true then Oper.wp Tryz.prog o a (w.alloc (.cells old t)) K Q else E := by
  rw [if_pos (by simp [Region.wanted, hgd])]
  refine wp_store_row _ x y ho w.heap.size (ccells c) hx hy t old (heap_alloc_new w _) (by rw [compInfo, hc.size]) (by rw [ho36, hc.size]) comp_one ?_
  rw [set_new]; exact h
theorem rangeAt_below {w w' : World} {b o : Nat} {l : List Value} (h : w.rangeAt b o l) (hb : Below w.heap.size w w') : w'.rangeAt b o l := fun j v hv => by
  have := h j v hv
  exact (hb.cell (p := ⟨b, o + j, none⟩) (World.block_lt_of_cell? _ _ this)).trans this

theorem wf_rng {n : Int} (h : (Lit.int .i64 n).wf = true) : -9223372036854775808 ≤ n ∧ n ≤ 9223372036854775807 := by
  simpa [Lit.wf, IntKind.min, IntKind.max, IntKind.signed, IntKind.bits] using h

set_option maxRecDepth 100000 in
set_option maxHeartbeats 800000 in
theorem component_any (c : V.Comp) (w : World) (hm : MaxOk w) (hc : CompWf c) :
    Calls Tryz.prog 96 #[cval c] w fun e w' => e = .returned (.bool (V.compOk c)) ∧ Below w.heap.size w w' := by
  have HM := Lib.hid hm
  have HC := Lib.hid hc
  have h1 := ccells_1 c
  have h2 := ccells_2 c
  have h3 := ccells_3 c
  have HD : Hid (V.compOk c = (V.pathOk c.name && V.valid c.sch c.ver)) := rfl
  have hn := Lib.hid hc.name
  have hv := Lib.hid hc.ver
  clear hm hc
  unfold cval
  generalize ccells c = cs at *
  generalize V.compOk c = r at *
  obtain ⟨par, sch, name, ver, dig⟩ := c
  simp only at *
  go_enter Tryz.func96, Tryz.ntmps96
  go_wp2_with fail
  refine (path_any _ _ (HM.out.below ((Below.refl _ w).alloc (Nat.le_refl _) _)) (by show name.toArray.size ≤ _; simpa using hn.out)).mono ?_
  rintro e w1 ⟨rfl, hb1⟩
  have hb0 := (Below.refl w.heap.size w).alloc (Nat.le_refl _) (.cells cs 88)
  have HB1 := Lib.hid (hb0.trans (hb1.mono hb0.size))
  have hc1 : w1.cell? ⟨w.heap.size, 1, none⟩ = some (.int .i64 sch) := by rw [hb1.cell (p := ⟨w.heap.size, 1, none⟩) (by simp), World.cell?_alloc_new]; exact h1
  have hc3 : w1.cell? ⟨w.heap.size, 3, none⟩ = some (.string ⟨ver.toArray⟩) := by rw [hb1.cell (p := ⟨w.heap.size, 3, none⟩) (by simp), World.cell?_alloc_new]; exact h3
  clear hb0 hb1 h1 h2 h3
  rw [bs_mk]
  rcases hp : V.pathOk name with _ | _
  · have HP := Lib.hid hp
    rw [hp] at HD
    clear hp
    go_wp2
    go_ret
    exact ⟨ret_bool HD.out.symm, HB1.out⟩
  · have HP := Lib.hid hp
    rw [hp] at HD
    clear hp
    go_wp2_with fail
    refine (valid_any _ _ _ (HM.out.below HB1.out) (by show ver.toArray.size ≤ _; simpa using hv.out)).mono ?_
    rintro e w2 ⟨rfl, hb2⟩
    have HB2 := Lib.hid (HB1.out.trans (hb2.mono HB1.out.size))
    clear hb2
    go_wp2
    go_ret
    exact ⟨ret_bool (by rw [HD.out]; rfl), HB2.out⟩
end Go.Proofs.YtnhfaincdabdkaaGreatDoor
