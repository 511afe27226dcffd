/-
  Walk: pattern.Path.
  Components as values; walks: schemes, their names, component.
  Plain Lean, no program: package URLs.
  Walks: names of schemes; package URLs made.
-/
import Derived.Test.YtpjjkbdkgaehkaaGreatDoorSL
import Derived.Test.YtpjjkbdkgaehkaaGreatDoorJP
import Derived.Test.YtpjjkbdkgaehkaaGreatDoorP6
import Derived.Test.YtpjjkbdkgaehkaaGreatDoorCO
import Derived.Deep.MidRow
import Derived.StillTailTactics
namespace Go.Proofs.YtpjjkbdkgaehkaaGreatDoor
open Go.RowKit

theorem indexByte_lt (l : V.Bs) (c : UInt8) : (0 ≤ Lib.indexByte l c) ↔ c ∈ l := decide_eq_decide.1 (V.indexByte_mem l c)

theorem path_short {s : V.Bs} (h : s.length < 1 ∨ 200 < s.length) : V.pathOk s = false := by
  unfold V.pathOk
  rcases h with h | h
  · have : decide (1 ≤ s.length) = false := decide_eq_false (by omega)
    rw [this]; rfl
  · have : decide (s.length ≤ 200) = false := decide_eq_false (by omega)
    rw [this]; simp
theorem path_zero {s : V.Bs} (h : (0 : UInt8) ∈ s) : V.pathOk s = false := by
  unfold V.pathOk; simp [h]
theorem path_rest {s : V.Bs} (h1 : 1 ≤ s.length) (h2 : s.length ≤ 200) (h3 : (0 : UInt8) ∉ s) : V.pathOk s = V.partsOk s := by
  unfold V.pathOk; simp [h1, h2, h3]

set_option maxRecDepth 100000 in
set_option maxHeartbeats 1600000 in
theorem path_any (s : ByteArray) (w : World) (hm : MaxOk w) (hs : s.size ≤ maxLen) :
    Calls Tryz.prog 60 #[.string s] w fun e w' => e = .returned (.bool (V.pathOk s.data.toList)) ∧ Below w.heap.size w w' := by
  have HM := Lib.hid hm
  unfold maxLen at hs
  clear hm
  by_cases h1 : s.size < 1
  · have HR := Lib.hid (path_short (s := s.data.toList) (.inl (by rw [bs_size]; exact h1)))
    go_enter Tryz.func60, Tryz.ntmps60
    go_wp2
    go_ret
    exact ⟨ret_bool HR.out.symm, Below.refl _ _⟩
  · by_cases h2 : 200 < s.size
    · have HR := Lib.hid (path_short (s := s.data.toList) (.inr (by rw [bs_size]; exact h2)))
      go_enter Tryz.func60, Tryz.ntmps60
      go_wp2
      go_ret
      exact ⟨ret_bool HR.out.symm, Below.refl _ _⟩
    · have h1' : 1 ≤ s.size := by omega
      have h2' : s.size ≤ 200 := by omega
      clear h1 h2
      by_cases hz : (0 : UInt8) ∈ s.data.toList
      · have HR := Lib.hid (path_zero hz)
        have HI : 0 ≤ Lib.indexByte s.data.toList 0 := (indexByte_lt s.data.toList 0).2 hz
        clear hz
        go_enter Tryz.func60, Tryz.ntmps60
        go_wp2_with fail
        refine (Tryz.strings_IndexByte s 0 _).mono ?_
        rintro e w' ⟨rfl, rfl⟩
        rw [show ((0 : Int).toNat.toUInt8) = (0 : UInt8) from rfl]
        generalize Lib.indexByte s.data.toList 0 = ib at *
        go_wp2
        go_ret
        exact ⟨ret_bool HR.out.symm, Below.refl _ _⟩
      · have HR := Lib.hid (path_rest (s := s.data.toList) (by rw [bs_size]; exact h1') (by rw [bs_size]; exact h2') hz)
        have HI : ¬ 0 ≤ Lib.indexByte s.data.toList 0 := fun g => hz ((indexByte_lt s.data.toList 0).1 g)
        clear hz
        go_enter Tryz.func60, Tryz.ntmps60
        go_wp2_with fail
        refine (Tryz.strings_IndexByte s 0 _).mono ?_
        rintro e w' ⟨rfl, rfl⟩
        rw [show ((0 : Int).toNat.toUInt8) = (0 : UInt8) from rfl]
        generalize Lib.indexByte s.data.toList 0 = ib at *
        go_wp2
        go_loopw [0, 3] (fun sv mo wr => ∃ (x : ByteArray) (more : Bool), sv = .string x ∧ mo = .bool more ∧ x.size ≤ s.size ∧ V.pathOk s.data.toList = (if more then V.partsOk x.data.toList else true) ∧ Below w'.heap.size w' wr) (fun sv mo _ => (match sv with | .string x => x.size | _ => 0) + (match mo with | .bool true => 1 | _ => 0))
        case atStart => exact ⟨s, true, rfl, rfl, Nat.le_refl _, HR.out, Below.refl _ _⟩
        case round =>
          obtain ⟨x, more, rfl, rfl, hx, hp, hb⟩ := hrel
          have HB := Lib.hid hb
          have HP := Lib.hid hp
          clear hb hp
          rcases more with _ | _
          · go_wp2
            go_ret
            exact ⟨ret_bool HP.out.symm, HB.out⟩
          · have hcl := cut1_len 47 x.data.toList
            have HC := Lib.hid (V.parts_cut x.data.toList)
            have HD := Lib.hid (V.partOk_cases (V.cut1 47 x.data.toList).1)
            have HS : Hid ((V.cut1 47 x.data.toList).2.2 = true → (V.cut1 47 x.data.toList).2.1.length < x.size) := Lib.hid (fun h => by
              have := congrArg List.length (V.cut_whole 47 x.data.toList h)
              rw [bs_size] at this
              simp at this; omega)
            rw [bs_size] at hcl
            go_wp2_with fail
            refine (cut_any x 47 _ (HM.out.below HB.out) (by omega)).mono ?_
            rintro e w1 ⟨rfl, hb1⟩
            have HB1 := Lib.hid (HB.out.trans (hb1.mono HB.out.size))
            clear hb1
            generalize (V.cut1 47 x.data.toList).1 = p at *
            generalize (V.cut1 47 x.data.toList).2.1 = q at *
            generalize (V.cut1 47 x.data.toList).2.2 = more at *
            rcases HD.out with ⟨rfl, e⟩ | ⟨rfl, e⟩ | ⟨rfl, e⟩ | ⟨e1, e2, e3, e⟩
            · have HE := Lib.hid e
              clear HD e
              go_wp2
              go_ret
              refine ⟨ret_bool ?_, HB1.out⟩
              rw [HP.out, if_pos (by trivial), HC.out, HE.out]
              cases more <;> rfl
            · have HE := Lib.hid e
              clear HD e
              go_wp2
              go_ret
              refine ⟨ret_bool ?_, HB1.out⟩
              rw [HP.out, if_pos (by trivial), HC.out, HE.out]
              cases more <;> rfl
            · have HE := Lib.hid e
              clear HD e
              go_wp2
              go_ret
              refine ⟨ret_bool ?_, HB1.out⟩
              rw [HP.out, if_pos (by trivial), HC.out, HE.out]
              cases more <;> rfl
            · have HE := Lib.hid e
              clear HD e
              have HT : Hid (V.pathOk s.data.toList = if more then V.partsOk q else true) := Lib.hid (by
                rw [HP.out, if_pos (by trivial), HC.out, HE.out]; cases more <;> rfl)
              clear HC HP
              go_wp2
              go_roundw
              case rel => exact ⟨⟨q.toArray⟩, more, rfl, rfl, by show q.toArray.size ≤ _; simp; omega, by rw [bs_mk]; exact HT.out, HB1.out⟩
              case measure =>
                have hq : (⟨q.toArray⟩ : ByteArray).size = q.length := by show q.toArray.size = _; simp
                have := HS.out
                rcases more with _ | _
                · simp [hq]; omega
                · have := this rfl
                  simp [hq]; omega
end Go.Proofs.YtpjjkbdkgaehkaaGreatDoor
namespace Go.Proofs.YtpjjkbdkgaehkaaGreatDoor
open Go.RowKit

/-- the cells of a component -/
def cellsL (c : V.Comp) : List Value := .int .i64 c.par :: .int .i64 c.sch :: .string ⟨c.name.toArray⟩ :: .string ⟨c.ver.toArray⟩ :: c.dig.map (fun n => Value.int .u8 n)
def ccells (c : V.Comp) : Array Value := (cellsL c).toArray
def cval (c : V.Comp) : Value := .agg (ccells c)

/-- a component of the program -/
structure CompWf (c : V.Comp) : Prop where
  par : (Lit.int .i64 c.par).wf = true
  sch : (Lit.int .i64 c.sch).wf = true
  name : c.name.length ≤ maxLen
  ver : c.ver.length ≤ maxLen
  len : c.dig.length = 32
  dig : ∀ n ∈ c.dig, (Lit.int .u8 n).wf = true

theorem ccells_0 (c : V.Comp) : (ccells c)[0]? = some (.int .i64 c.par) := rfl
theorem ccells_1 (c : V.Comp) : (ccells c)[1]? = some (.int .i64 c.sch) := rfl
theorem ccells_2 (c : V.Comp) : (ccells c)[2]? = some (.string ⟨c.name.toArray⟩) := rfl
theorem ccells_3 (c : V.Comp) : (ccells c)[3]? = some (.string ⟨c.ver.toArray⟩) := rfl
theorem CompWf.size {c : V.Comp} (h : CompWf c) : (ccells c).size = 36 := by
  unfold ccells cellsL
  simp [h.len]

theorem compInfo : (Tryz.prog.info? 66).map (·.size) = some 36 := by kernel_rfl
theorem compRow : ∃ d, Tryz.prog.underlying 66 = some d ∧ d.isRow = true := ⟨_, Tryz.underlying66, rfl⟩

/-- a component read where it lies -/
theorem load_comp {c : V.Comp} (hc : CompWf c) {w : World} {b o : Nat} (h : w.rangeAt b o (cellsL c)) :
    (Instr.loadAt 66 (.pointer (some ⟨b, o, none⟩))).run Tryz.prog w = .ok (.agg (ccells c)) w := by
  obtain ⟨d, hu, hd⟩ := compRow
  exact run_loadAt_mid w b o _ (cellsL c) d h hu hd (by rw [compInfo]; have := hc.size; unfold ccells at this; simp at this; rw [this])
theorem range_new (c : V.Comp) (w : World) (t : TypeId) : (w.alloc (.cells (ccells c) t)).rangeAt w.heap.size 0 (cellsL c) := fun j v hv => by
  rw [Nat.zero_add, World.cell?_alloc_new]
  unfold ccells
  simpa using hv
theorem load_new {c : V.Comp} (hc : CompWf c) (w : World) (t : TypeId) : (Instr.loadAt 66 (.pointer (some ⟨w.heap.size, 0, none⟩))).run Tryz.prog (w.alloc (.cells (ccells c) t)) = .ok (.agg (ccells c)) (w.alloc (.cells (ccells c) t)) :=
  load_comp hc (range_new c w t)
/-- at the operation: a component is loaded -/
theorem wl_load {ops : Array Oper} {rest : List Oper} {o : Oper} {a : Act} {w : World} {Q : Exit → Act → World → Prop} (hgd : o.guard = none) (x : Operand) (ho : o.op = .load 66 x)
    (b off : Nat) (hx : a.eval x = .pointer (some ⟨b, off, none⟩)) (c : V.Comp) (hc : CompWf c) (hr : w.rangeAt b off (cellsL c))
    (h : wpList Tryz.prog ops Q rest (a.put o.dst (.agg (ccells c))) w) : wpList Tryz.prog ops Q (o :: rest) a w := by
  obtain ⟨d, hu, hd⟩ := compRow
  exact wpList_load_mid hgd _ x ho b off hx (cellsL c) d hr hu hd (by rw [compInfo]; have := hc.size; unfold ccells at this; simp at this; rw [this]) h
/-- a new block with a component's cells -/
theorem set_new (w : World) (old cs : Array Value) (t : TypeId) : (w.alloc (.cells old t)).setRow w.heap.size cs = w.alloc (.cells cs t) := by
  have e : ((w.alloc (.cells old t)).setRow w.heap.size cs).heap = (w.alloc (.cells cs t)).heap := by
    apply Array.ext_getElem?
    intro i
    show ((w.heap.push _).modify w.heap.size _)[i]? = (w.heap.push _)[i]?
    rw [Array.getElem?_modify, Array.getElem?_push, Array.getElem?_push]
    by_cases h : i = w.heap.size
    · subst h; simp
    · rw [if_neg h, if_neg h, if_neg (Ne.symm h)]
  show ({ (w.alloc (.cells old t)).setRow w.heap.size cs with heap := ((w.alloc (.cells old t)).setRow w.heap.size cs).heap } : World) = _
  rw [e]
  rfl
theorem comp_one {c : V.Comp} : (ccells c).all (·.oneCell') = true := by
  rw [Array.all_eq_true_iff_forall_mem]
  intro v hv
  unfold ccells cellsL at hv
  simp at hv
  rcases hv with rfl | rfl | rfl | rfl | ⟨n, _, rfl⟩ <;> rfl
/-- at the operation: a component is stored into a new block -/
theorem wl_store {ops : Array Oper} {rest : List Oper} {o : Oper} {a : Act} {w : World} {Q : Exit → Act → World → Prop} (hgd : o.guard = none) (x y : Operand) (ho : o.op = .store 66 x y)
    (old : Array Value) (t : TypeId) (hx : a.eval x = .pointer (some ⟨w.heap.size, 0, none⟩)) (c : V.Comp) (hc : CompWf c) (hy : a.eval y = .agg (ccells c)) (ho36 : old.size = 36)
    (h : wpList Tryz.prog ops Q rest (a.put o.dst undef) (w.alloc (.cells (ccells c) t))) : wpList Tryz.prog ops Q (o :: rest) a (w.alloc (.cells old t)) := by
  refine wpList_store_row hgd _ x y ho w.heap.size (ccells c) hx hy t old (heap_alloc_new w _) (by rw [compInfo, hc.size]) (by rw [ho36, hc.size]) comp_one ?_
  rw [set_new]; exact h
/-- at the operation: a component is stored into a block -/
theorem wl_store_at {ops : Array Oper} {rest : List Oper} {o : Oper} {a : Act} {w : World} {Q : Exit → Act → World → Prop} (hgd : o.guard = none) (x y : Operand) (ho : o.op = .store 66 x y)
    (g : Nat) (old : Array Value) (t : TypeId) (hg : w.heap[g]? = some (.cells old t (0, 0))) (hx : a.eval x = .pointer (some ⟨g, 0, none⟩)) (c : V.Comp) (hc : CompWf c) (hy : a.eval y = .agg (ccells c)) (ho36 : old.size = 36)
    (h : wpList Tryz.prog ops Q rest (a.put o.dst undef) (w.setRow g (ccells c))) : wpList Tryz.prog ops Q (o :: rest) a w :=
  wpList_store_row hgd _ x y ho g (ccells c) hx hy t old hg (by rw [compInfo, hc.size]) (by rw [ho36, hc.size]) comp_one h
theorem loadVar_row {c : V.Comp} (hc : CompWf c) {w : World} {g : Nat} {t : TypeId} (hg : w.heap[g]? = some (.cells (ccells c) t (0, 0))) : (loadVar 66 ⟨g, 0, none⟩).run Tryz.prog w = .ok (.agg (ccells c)) w := by
  obtain ⟨d, hu, hd⟩ := compRow
  exact run_loadVar_row w g t _ (ccells c) (0, 0) d hg hu (by cases d <;> first | rfl | cases hd) (by rw [compInfo, hc.size])
theorem setRow_below {B : Nat} {w w1 : World} (h : Below B w w1) {g : Nat} (hg : B ≤ g) (cs : Array Value) : Below B w (w1.setRow g cs) :=
  ⟨h.os, h.tape, h.output, by simp; exact h.size, fun i hi => (setRow_other w1 g i cs (by omega)).trans (h.block i hi)⟩
def zeroC : V.Comp := ⟨0, 0, [], [], List.replicate 32 0⟩
theorem zeroC_wf : CompWf zeroC := ⟨by decide, by decide, by decide, by decide, by decide, by decide⟩
theorem zero_cells : (#[.int .i64 0, .int .i64 0, .string ⟨#[]⟩, .string ⟨#[]⟩, Value.int .u8 0, Value.int .u8 0, Value.int .u8 0, Value.int .u8 0, Value.int .u8 0, Value.int .u8 0, Value.int .u8 0, Value.int .u8 0, Value.int .u8 0, Value.int .u8 0, Value.int .u8 0, Value.int .u8 0, Value.int .u8 0, Value.int .u8 0, Value.int .u8 0, Value.int .u8 0, Value.int .u8 0, Value.int .u8 0, Value.int .u8 0, Value.int .u8 0, Value.int .u8 0, Value.int .u8 0, Value.int .u8 0, Value.int .u8 0, Value.int .u8 0, Value.int .u8 0, Value.int .u8 0, Value.int .u8 0, Value.int .u8 0, Value.int .u8 0, Value.int .u8 0, Value.int .u8 0] : Array Value) = ccells zeroC := rfl
/-- two results: a variable in memory and a slot -/
theorem results_two {P : Program} {fn : Func} {p q : Tmp} {ty : TypeId} (h : fn.results = #[.cell p ty, .tmp q]) {tmps : Array Value} {w : World} {a : Addr} {v u : Value}
    (hp : tmps.getD p undef = .pointer (some a)) (hq : tmps.getD q undef = u) (hl : (loadVar ty a).run P w = .ok v w) : (results fn tmps).run P w = .ok (.tuple #[v, u]) w := by
  have hp' : tmps[p]?.getD undef = .pointer (some a) := by simpa using hp
  have hq' : tmps[q]?.getD undef = u := by simpa using hq
  simp [results, h, hp', hq', asAddr, hl]
/-- one result: a variable in memory -/
theorem results_one {P : Program} {fn : Func} {p : Tmp} {ty : TypeId} (h : fn.results = #[.cell p ty]) {tmps : Array Value} {w : World} {a : Addr} {v : Value}
    (hp : tmps.getD p undef = .pointer (some a)) (hl : (loadVar ty a).run P w = .ok v w) : (results fn tmps).run P w = .ok v w := by
  have hp' : tmps[p]?.getD undef = .pointer (some a) := by simpa using hp
  simp [results, h, hp', asAddr, hl]
/-- a quiet call, as a step of a region that draws -/
theorem step_quiet {P : Program} {ops : Array Oper} {o : Oper} {a : Act} {w : World} {K : Act → World → Prop} {Q : Exit → Act → World → Prop} {E : Prop} (hgd : o.guard = none) (f : FuncId) (args : Array Value) (v : Value)
    (he : (execOp a.eval o).run P w = .ok (.enter f args) w) (hc : Calls P f args w fun e w' => e = .returned v ∧ w' = w) (h : K (a.put o.dst v) w) :
    if Region.wanted o (yielded ops a.tmps) = true then Oper.wp P o a w K Q else E := by
  rw [if_pos (by simp [Region.wanted, hgd])]
  unfold Oper.wp
  rw [he]
  refine hc.mono ?_
  rintro e w' ⟨rfl, rfl⟩
  exact h
theorem lit_cells (p n : Int) (s t : ByteArray) : (#[.int .i64 p, .int .i64 n, .string s, .string t, Value.int .u8 0, Value.int .u8 0, Value.int .u8 0, Value.int .u8 0, Value.int .u8 0, Value.int .u8 0, Value.int .u8 0, Value.int .u8 0, Value.int .u8 0, Value.int .u8 0, Value.int .u8 0, Value.int .u8 0, Value.int .u8 0, Value.int .u8 0, Value.int .u8 0, Value.int .u8 0, Value.int .u8 0, Value.int .u8 0, Value.int .u8 0, Value.int .u8 0, Value.int .u8 0, Value.int .u8 0, Value.int .u8 0, Value.int .u8 0, Value.int .u8 0, Value.int .u8 0, Value.int .u8 0, Value.int .u8 0, Value.int .u8 0, Value.int .u8 0, Value.int .u8 0, Value.int .u8 0] : Array Value) = ccells ⟨p, n, s.data.toList, t.data.toList, List.replicate 32 0⟩ := rfl
theorem range_row {c : V.Comp} {w : World} {g : Nat} {t : TypeId} (hg : w.heap[g]? = some (.cells (ccells c) t (0, 0))) : w.rangeAt g 0 (cellsL c) := fun j v hv => by
  rw [Nat.zero_add, cell_of_row w g j (ccells c) t (0, 0) hg]
  unfold ccells
  simpa using hv
/-- a new component, as a step of a region that draws -/
theorem step_alloc {ops : Array Oper} {o : Oper} {a : Act} {w : World} {K : Act → World → Prop} {Q : Exit → Act → World → Prop} {E : Prop} (hgd : o.guard = none) (ho : o.op = .alloc 66)
    (h : K (a.put o.dst (.pointer (some ⟨w.heap.size, 0, none⟩))) (w.alloc (.cells (ccells zeroC) 66))) :
    if Region.wanted o (yielded ops a.tmps) = true then Oper.wp Tryz.prog o a w K Q else E := by
  rw [if_pos (by simp [Region.wanted, hgd])]
  rw [← zero_cells] at h
  obtain ⟨dst, op, ty, ps, af, gd⟩ := o
  simp only at ho
  subst ho
  simp only at h
  generalize hK' : (fun (a' : Act) (w' : World) => K a' w') = K' at *
  subst hK'
  go_simp
  exact h
/-- a component stored into it -/
theorem step_store {ops : Array Oper} {o : Oper} {a : Act} {w : World} {K : Act → World → Prop} {Q : Exit → Act → World → Prop} {E : Prop} (hgd : o.guard = none) (x y : Operand) (ho : o.op = .store 66 x y)
    (old : Array Value) (t : TypeId) (hx : a.eval x = .pointer (some ⟨w.heap.size, 0, none⟩)) (c : V.Comp) (hc : CompWf c) (hy : a.eval y = .agg (ccells c)) (ho36 : old.size = 36)
    (h : K (a.put o.dst undef) (w.alloc (.cells (ccells c) t))) :
    if Region.wanted o (yielded ops a.tmps) = true then Oper.wp Tryz.prog o a (w.alloc (.cells old t)) K Q else E := by
  rw [if_pos (by simp [Region.wanted, hgd])]
  refine wp_store_row _ x y ho w.heap.size (ccells c) hx hy t old (heap_alloc_new w _) (by rw [compInfo, hc.size]) (by rw [ho36, hc.size]) comp_one ?_
  rw [set_new]; exact h
theorem rangeAt_below {w w' : World} {b o : Nat} {l : List Value} (h : w.rangeAt b o l) (hb : Below w.heap.size w w') : w'.rangeAt b o l := fun j v hv => by
  have := h j v hv
  exact (hb.cell (p := ⟨b, o + j, none⟩) (World.block_lt_of_cell? _ _ this)).trans this

theorem wf_rng {n : Int} (h : (Lit.int .i64 n).wf = true) : -9223372036854775808 ≤ n ∧ n ≤ 9223372036854775807 := by
  simpa [Lit.wf, IntKind.min, IntKind.max, IntKind.signed, IntKind.bits] using h

set_option maxRecDepth 100000 in
set_option maxHeartbeats 800000 in
theorem component_any (c : V.Comp) (w : World) (hm : MaxOk w) (hc : CompWf c) :
    Calls Tryz.prog 34 #[cval c] w fun e w' => e = .returned (.bool (V.compOk c)) ∧ Below w.heap.size w w' := by
  have HM := Lib.hid hm
  have HC := Lib.hid hc
  have h1 := ccells_1 c
  have h2 := ccells_2 c
  have h3 := ccells_3 c
  have HD : Hid (V.compOk c = (V.pathOk c.name && V.valid c.sch c.ver)) := rfl
  have hn := Lib.hid hc.name
  have hv := Lib.hid hc.ver
  clear hm hc
  unfold cval
  generalize ccells c = cs at *
  generalize V.compOk c = r at *
  obtain ⟨par, sch, name, ver, dig⟩ := c
  simp only at *
  go_enter Tryz.func34, Tryz.ntmps34
  go_wp2_with fail
  refine (path_any _ _ (HM.out.below ((Below.refl _ w).alloc (Nat.le_refl _) _)) (by show name.toArray.size ≤ _; simpa using hn.out)).mono ?_
  rintro e w1 ⟨rfl, hb1⟩
  have hb0 := (Below.refl w.heap.size w).alloc (Nat.le_refl _) (.cells cs 66)
  have HB1 := Lib.hid (hb0.trans (hb1.mono hb0.size))
  have hc1 : w1.cell? ⟨w.heap.size, 1, none⟩ = some (.int .i64 sch) := by rw [hb1.cell (p := ⟨w.heap.size, 1, none⟩) (by simp), World.cell?_alloc_new]; exact h1
  have hc3 : w1.cell? ⟨w.heap.size, 3, none⟩ = some (.string ⟨ver.toArray⟩) := by rw [hb1.cell (p := ⟨w.heap.size, 3, none⟩) (by simp), World.cell?_alloc_new]; exact h3
  clear hb0 hb1 h1 h2 h3
  rw [bs_mk]
  rcases hp : V.pathOk name with _ | _
  · have HP := Lib.hid hp
    rw [hp] at HD
    clear hp
    go_wp2
    go_ret
    exact ⟨ret_bool HD.out.symm, HB1.out⟩
  · have HP := Lib.hid hp
    rw [hp] at HD
    clear hp
    go_wp2_with fail
    refine (valid_any _ _ _ (HM.out.below HB1.out) (by show ver.toArray.size ≤ _; simpa using hv.out)).mono ?_
    rintro e w2 ⟨rfl, hb2⟩
    have HB2 := Lib.hid (HB1.out.trans (hb2.mono HB1.out.size))
    clear hb2
    go_wp2
    go_ret
    exact ⟨ret_bool (by rw [HD.out]; rfl), HB2.out⟩
end Go.Proofs.YtpjjkbdkgaehkaaGreatDoor
namespace Go.Proofs.YtpjjkbdkgaehkaaGreatDoor.V

def schName (n : Int) : Bs := if n = 1 then [115, 101, 109, 118, 101, 114] else if n = 2 then [100, 101, 98, 105, 97, 110] else if n = 3 then [100, 111, 116, 116, 101, 100] else []
def schNum (s : Bs) : Int := if s = schName 1 then 1 else if s = schName 2 then 2 else if s = schName 3 then 3 else 0
def pkg : Bs := [112, 107, 103, 58]
def purl (c : Comp) : Bs := pkg ++ schName c.sch ++ [47] ++ c.name ++ [64] ++ c.ver
/-- the package URL and the error -/
def purlR (c : Comp) : Bs × Int := if compOk c then (purl c, 0) else ([], 1)
def zeroDig : List Int := List.replicate 32 0
def lastAt (s : Bs) : Int := Lib.lastIndexByte ⟨s.toArray⟩ 64
def parsed (s : Bs) : Comp := ⟨-1, schNum (cut1 47 (s.drop 4)).1, (cut1 47 (s.drop 4)).2.1.take (lastAt (cut1 47 (s.drop 4)).2.1).toNat, (cut1 47 (s.drop 4)).2.1.drop ((lastAt (cut1 47 (s.drop 4)).2.1).toNat + 1), zeroDig⟩
/-- whether the marks are there -/
def marks (s : Bs) : Bool := Lib.hasPrefix s pkg && ((cut1 47 (s.drop 4)).2.2 && decide (0 ≤ lastAt (cut1 47 (s.drop 4)).2.1))
def parseP (s : Bs) : Option Comp := if marks s && compOk (parsed s) then some (parsed s) else none

theorem cut1_app {c : UInt8} : ∀ {a : Bs}, c ∉ a → ∀ b, cut1 c (a ++ c :: b) = (a, b, true) := by
  intro a h b
  have ht : (a ++ c :: b).takeWhile (· != c) = a := by
    induction a with
    | nil => simp
    | cons x a ih =>
      have hx : (x != c) = true := by
        have : x ≠ c := fun e => h (by simp [e])
        simpa using this
      rw [List.cons_append, List.takeWhile_cons, if_pos hx, ih (fun g => h (by simp [g]))]
  unfold cut1
  rw [if_pos (by simp), ht]
  simp
theorem lastAt_cases (s : Bs) : (lastAt s = -1 ∧ (64 : UInt8) ∉ s) ∨ ∃ i : Nat, i < s.length ∧ lastAt s = i ∧ s = s.take i ++ 64 :: s.drop (i + 1) ∧ (64 : UInt8) ∉ s.drop (i + 1) := by
  unfold lastAt
  have hsz : (ByteArray.mk s.toArray).size = s.length := by show s.toArray.size = _; simp
  have hat : ∀ j (h : j < s.length), (ByteArray.mk s.toArray).data[j]! = s[j] := fun j h => by simp [h]
  rcases Lib.lastIndexByte_spec ⟨s.toArray⟩ 64 with ⟨e, hn⟩ | ⟨i, hi, e, hc, hn⟩
  · refine .inl ⟨e, fun g => ?_⟩
    obtain ⟨j, hj, hs⟩ := List.mem_iff_getElem.1 g
    have := hn j (by rw [hsz]; exact hj)
    rw [hat j hj, hs] at this
    exact this rfl
  · rw [hsz] at hi hn
    rw [hat i hi] at hc
    have h64 : s[i] = 64 := UInt8.toNat_inj.1 (show s[i].toNat = 64 by omega)
    refine .inr ⟨i, hi, e, ?_, fun g => ?_⟩
    · conv => lhs; rw [← List.take_append_drop i s, List.drop_eq_getElem_cons hi, h64]
    · obtain ⟨j, hj, hs⟩ := List.mem_iff_getElem.1 g
      rw [List.getElem_drop] at hs
      have hj' : i + 1 + j < s.length := by simp at hj; omega
      have := hn (i + 1 + j) (by omega) hj'
      rw [hat _ hj', hs] at this
      exact this rfl
theorem lastAt_app {a b : Bs} (h : (64 : UInt8) ∉ b) : lastAt (a ++ 64 :: b) = a.length := by
  rcases lastAt_cases (a ++ 64 :: b) with ⟨_, hn⟩ | ⟨i, hi, e, hs, hn⟩
  · exact absurd (by simp) hn
  · rw [e]
    congr 1
    by_cases h1 : i = a.length
    · exact h1
    · exfalso
      by_cases h2 : i < a.length
      · refine hn ?_
        rw [List.drop_append_of_le_length (by omega)]
        simp
      · have hlen : i < a.length + 1 + b.length := by simp at hi; omega
        have h64 : (a ++ 64 :: b)[i]? = some 64 := by
          rw [hs, List.getElem?_append_right (by simp; omega)]
          have : i - (List.take i (a ++ 64 :: b)).length = 0 := by simp; omega
          rw [this]; rfl
        rw [List.getElem?_append_right (by omega), List.getElem?_cons, if_neg (by omega)] at h64
        exact h (List.mem_of_getElem? h64)
theorem schNum_name {n : Int} (h : n = 1 ∨ n = 2 ∨ n = 3) : schNum (schName n) = n := by
  rcases h with rfl | rfl | rfl <;> decide
theorem schNum_at {s : Bs} {k : Nat} (h1 : 1 ≤ k) (h3 : k ≤ 3) (he : s = schName k) : schNum s = k := by
  subst he; exact schNum_name (by omega)
theorem schNum_no {s : Bs} (h : ∀ j : Nat, 1 ≤ j → j < 4 → ¬ s = schName j) : schNum s = 0 := by
  have a : ¬ s = schName 1 := h 1 (by omega) (by omega)
  have b : ¬ s = schName 2 := h 2 (by omega) (by omega)
  have c : ¬ s = schName 3 := h 3 (by omega) (by omega)
  unfold schNum; rw [if_neg a, if_neg b, if_neg c]
theorem schName_num {s : Bs} (h : schNum s = 1 ∨ schNum s = 2 ∨ schNum s = 3) : schName (schNum s) = s := by
  unfold schNum at *
  split
  · rename_i e; exact e.symm
  · split
    · rename_i e; exact e.symm
    · split
      · rename_i e; exact e.symm
      · simp_all
theorem schName_slash {n : Int} : (47 : UInt8) ∉ schName n := by
  unfold schName
  repeat' split
  all_goals decide
theorem compOk_iff {c : Comp} : compOk c = true ↔ pathOk c.name = true ∧ valid c.sch c.ver = true := by unfold compOk; rw [Bool.and_eq_true]

theorem compOk_len {c : Comp} (h : compOk c = true) : c.name.length ≤ 200 ∧ c.ver.length ≤ 64 := by
  obtain ⟨h1, h2⟩ := compOk_iff.1 h
  unfold pathOk at h1
  unfold valid at h2
  simp only [Bool.and_eq_true, decide_eq_true_eq] at h1 h2
  exact ⟨h1.1.1.2, h2.1.2⟩
theorem schName_len (n : Int) : (schName n).length ≤ 6 := by
  unfold schName
  repeat' split
  all_goals decide

theorem parse_purl {c : Comp} (h : compOk c = true) : parseP (purl c) = some { c with par := -1, dig := zeroDig } := by
  obtain ⟨hp, hv⟩ := compOk_iff.1 h
  have hs := valid_scheme hv
  have hd : (purl c).drop 4 = schName c.sch ++ 47 :: (c.name ++ 64 :: c.ver) := by
    show (pkg ++ schName c.sch ++ [47] ++ c.name ++ [64] ++ c.ver).drop 4 = _
    simp [pkg]
  have hc : cut1 47 ((purl c).drop 4) = (schName c.sch, c.name ++ 64 :: c.ver, true) := by rw [hd]; exact cut1_app schName_slash _
  have hl : lastAt (c.name ++ 64 :: c.ver) = c.name.length := lastAt_app (valid_not hv (by decide +kernel))
  have hm : marks (purl c) = true := by
    unfold marks
    rw [hc, hl]
    have : Lib.hasPrefix (purl c) pkg = true := by simp [Lib.hasPrefix, purl, pkg]
    rw [this]; simp
  have hq : parsed (purl c) = { c with par := -1, dig := zeroDig } := by
    unfold parsed
    rw [hc]
    simp only
    rw [hl, schNum_name hs]
    simp
  unfold parseP
  rw [hm, hq, if_pos (by rw [Bool.true_and]; exact h)]
theorem purl_parse {s : Bs} {a : Comp} (h : parseP s = some a) : compOk a = true ∧ purl a = s ∧ a.par = -1 ∧ a.dig = zeroDig := by
  unfold parseP at h
  split at h
  · rename_i g
    rw [Bool.and_eq_true] at g
    obtain ⟨gm, gc⟩ := g
    simp only [Option.some.injEq] at h
    subst h
    refine ⟨gc, ?_, rfl, rfl⟩
    obtain ⟨_, hv⟩ := compOk_iff.1 gc
    have hs := valid_scheme hv
    unfold marks at gm
    rw [Bool.and_eq_true, Bool.and_eq_true] at gm
    obtain ⟨g1, g2, g3⟩ := gm
    have e1 := cut_whole 47 _ g2
    have hpre : s = pkg ++ s.drop 4 := by
      unfold Lib.hasPrefix at g1
      obtain ⟨t, ht⟩ := List.isPrefixOf_iff_prefix.1 g1
      rw [← ht]; simp [pkg]
    unfold purl parsed
    simp only
    have hn : schName (schNum (cut1 47 (s.drop 4)).1) = (cut1 47 (s.drop 4)).1 := schName_num hs
    rw [hn]
    rcases lastAt_cases (cut1 47 (s.drop 4)).2.1 with ⟨e, _⟩ | ⟨i, hi, e, e2, _⟩
    · rw [e] at g3; simp at g3
    · rw [e]
      simp only [Int.toNat_natCast]
      conv => rhs; rw [hpre, e1, e2]
      simp
  · cases h
end Go.Proofs.YtpjjkbdkgaehkaaGreatDoor.V
namespace Go.Proofs.YtpjjkbdkgaehkaaGreatDoor
open Go.RowKit

set_option maxRecDepth 100000 in
set_option maxHeartbeats 400000 in
theorem schName_any (n : Int) (w : World) :
    Calls Tryz.prog 28 #[.int .i64 n] w fun e w' => e = .returned (.string ⟨(V.schName n).toArray⟩) ∧ w' = w := by
  by_cases h1 : n = 1
  · subst h1
    go_enter Tryz.func28, Tryz.ntmps28
    go_wp2
    go_ret
    exact ⟨rfl, rfl⟩
  · by_cases h2 : n = 2
    · subst h2
      go_enter Tryz.func28, Tryz.ntmps28
      go_wp2
      go_ret
      exact ⟨rfl, rfl⟩
    · by_cases h3 : n = 3
      · subst h3
        go_enter Tryz.func28, Tryz.ntmps28
        go_wp2
        go_ret
        exact ⟨rfl, rfl⟩
      · have HN : Hid (V.schName n = []) := Lib.hid (by unfold V.schName; rw [if_neg h1, if_neg h2, if_neg h3])
        go_enter Tryz.func28, Tryz.ntmps28
        go_wp2
        go_ret
        exact ⟨by rw [HN.out]; rfl, rfl⟩

theorem ret_two {a b : ByteArray} {x y : Int} (h : a = b) (g : x = y) : Ending.returned (.tuple #[.string a, .int .i64 x]) = .returned (.tuple #[.string b, .int .i64 y]) := by rw [h, g]

set_option maxRecDepth 100000 in
set_option maxHeartbeats 1600000 in
theorem purl_any (c : V.Comp) (w : World) (hm : MaxOk w) (hc : CompWf c) :
    Calls Tryz.prog 37 #[cval c] w fun e w' => e = .returned (.tuple #[.string ⟨(V.purlR c).1.toArray⟩, .int .i64 (V.purlR c).2]) ∧ Below w.heap.size w w' := by
  have HM := Lib.hid hm
  have HC := Lib.hid hc
  have hcs := hc.size
  have h1 := ccells_1 c
  have h2 := ccells_2 c
  have h3 := ccells_3 c
  clear hm hc
  unfold cval
  go_enter Tryz.func37, Tryz.ntmps37
  go_wp2_with (first | (refine wl_load rfl _ rfl w.heap.size 0 rfl c HC.out (range_new c w _) ?_) | fail)
  refine (component_any c _ (HM.out.below ((Below.refl _ w).alloc (Nat.le_refl _) _)) HC.out).mono ?_
  rintro e w1 ⟨rfl, hb1⟩
  have hb0 := (Below.refl w.heap.size w).alloc (Nat.le_refl _) (.cells (ccells c) 66)
  have HB1 := Lib.hid (hb0.trans (hb1.mono hb0.size))
  have hc1 : w1.cell? ⟨w.heap.size, 1, none⟩ = some (.int .i64 c.sch) := by rw [hb1.cell (p := ⟨w.heap.size, 1, none⟩) (by simp), World.cell?_alloc_new]; exact h1
  have hc2 : w1.cell? ⟨w.heap.size, 2, none⟩ = some (.string ⟨c.name.toArray⟩) := by rw [hb1.cell (p := ⟨w.heap.size, 2, none⟩) (by simp), World.cell?_alloc_new]; exact h2
  have hc3 : w1.cell? ⟨w.heap.size, 3, none⟩ = some (.string ⟨c.ver.toArray⟩) := by rw [hb1.cell (p := ⟨w.heap.size, 3, none⟩) (by simp), World.cell?_alloc_new]; exact h3
  clear hb0 hb1 h1 h2 h3 hcs
  rcases hk : V.compOk c with _ | _
  · have HR : Hid (V.purlR c = ([], 1)) := Lib.hid (by unfold V.purlR; rw [hk]; rfl)
    clear hk
    go_wp2
    go_ret2
    exact ⟨by rw [HR.out]; rfl, HB1.out⟩
  · have HR : Hid (V.purlR c = (V.purl c, 0)) := Lib.hid (by unfold V.purlR; rw [hk]; rfl)
    obtain ⟨ln, lv⟩ := V.compOk_len hk
    have ls := V.schName_len c.sch
    have HSN := fun w => schName_any c.sch w
    have HP : Hid (V.purl c = V.pkg ++ V.schName c.sch ++ [47] ++ c.name ++ [64] ++ c.ver) := rfl
    clear hk
    generalize V.schName c.sch = sn at *
    generalize c.name = nm at *
    generalize c.ver = vr at *
    have s1 : ¬ (9223372036854775807 < 4 + sn.length) := by omega
    have s2 : ¬ (9223372036854775807 < 4 + sn.length + 1) := by omega
    have s3 : ¬ (9223372036854775807 < 4 + sn.length + 1 + nm.length) := by omega
    have s4 : ¬ (9223372036854775807 < 4 + sn.length + 1 + nm.length + 1) := by omega
    have s5 : ¬ (9223372036854775807 < 4 + sn.length + 1 + nm.length + 1 + vr.length) := by omega
    have SN := Lib.hid HSN
    clear HSN
    go_wp2
    go_quiet ((go_at_call 28; exact Calls.quiet_of_same (SN.out _)))
    rename_i nq
    go_wp2
    go_ret2
    exact ⟨ret_two (bs_ext (by rw [HR.out]; simp only [HP.out]; rw [bs_mk]; simp [V.pkg])) (by rw [HR.out]), HB1.out.trans (below_drewN (Below.refl _ _) nq |>.mono HB1.out.size)⟩

end Go.Proofs.YtpjjkbdkgaehkaaGreatDoor
