/-
  Walks: the makers of digests and components.
  Digests and components compared: the model's '==' on them.
-/
import Derived.Test.YtpjjkbdkgaehkaaGreatDoorJD
import Derived.Test.YtpjjkbdkgaehkaaGreatDoorTN
import Derived.Deep.Upon
import Derived.Great.BuildSlice
import Derived.DeepKeys5
import Derived.Laws.StructEq
namespace Go.Proofs.YtpjjkbdkgaehkaaGreatDoor
open Go.RowKit

/-- the cells of a digest -/
def dcellsL (l : List Int) : List Value := l.map fun n => Value.int .u8 n
def dcells (l : List Int) : Array Value := (dcellsL l).toArray
theorem digInfo : (Tryz.prog.info? 23).map (·.size) = some 32 := by kernel_rfl
theorem dig_one {l : List Int} : (dcells l).all (·.oneCell') = true := by
  rw [Array.all_eq_true_iff_forall_mem]
  intro v hv
  unfold dcells dcellsL at hv
  simp at hv
  obtain ⟨n, _, rfl⟩ := hv
  rfl
theorem dcells_size {l : List Int} (h : l.length = 32) : (dcells l).size = 32 := by unfold dcells dcellsL; simp [h]
theorem loadVar_dig {l : List Int} (h : l.length = 32) {w : World} {g : Nat} {t : TypeId} (hg : w.heap[g]? = some (.cells (dcells l) t (0, 0))) : (loadVar 23 ⟨g, 0, none⟩).run Tryz.prog w = .ok (.agg (dcells l)) w :=
  run_loadVar_row w g t _ (dcells l) (0, 0) _ hg Tryz.underlying23 rfl (by rw [digInfo, dcells_size h])
theorem setCells_grown (w : World) (b o : Nat) (vs : List Value) : w.grownBy (w.setCells b o vs) (some b) := by
  have h := World.keptBut_setCells b (may := fun _ => True) vs o w (fun _ _ => trivial)
  refine ⟨World.os_setCells w b o vs, ?_, World.output_setCells w b o vs, ?_, fun k hk hne => World.heap_setCells_other w b o vs hk (fun e => hne (by rw [e]))⟩
  all_goals clear h
  · induction vs generalizing o w with
    | nil => rfl
    | cons v vs ih => unfold World.setCells; rw [ih]; rfl
  · induction vs generalizing o w with
    | nil => exact Nat.le_refl _
    | cons v vs ih =>
      unfold World.setCells
      refine Nat.le_trans ?_ (ih _ _)
      simp [World.setCell]

theorem setRow_grown (w : World) (g : Nat) (cs : Array Value) : w.grownBy (w.setRow g cs) (some g) :=
  ⟨rfl, rfl, rfl, by simp, fun i _ hi => setRow_other w g i cs (fun e => hi (by rw [e]))⟩
/-- behind changes in a block that is new -/
theorem grown_new {w w1 w2 : World} {row : Option Nat} {g : Nat} (h : w.grownBy w1 row) (h2 : w1.grownBy w2 (some g)) (hg : w.heap.size ≤ g) : w.grownBy w2 row :=
  ⟨h2.os.trans h.os, h2.tape.trans h.tape, h2.output.trans h.output, Nat.le_trans h.size h2.size, fun k hk hne => (h2.block k (Nat.lt_of_lt_of_le hk h.size) (by simp; omega)).trans (h.block k hk hne)⟩
def zero32 : List Int := List.replicate 32 0
theorem zero_dig : (#[.int .u8 0, .int .u8 0, .int .u8 0, .int .u8 0, .int .u8 0, .int .u8 0, .int .u8 0, .int .u8 0, .int .u8 0, .int .u8 0, .int .u8 0, .int .u8 0, .int .u8 0, .int .u8 0, .int .u8 0, .int .u8 0, .int .u8 0, .int .u8 0, .int .u8 0, .int .u8 0, .int .u8 0, .int .u8 0, .int .u8 0, .int .u8 0, .int .u8 0, .int .u8 0, .int .u8 0, .int .u8 0, .int .u8 0, .int .u8 0, .int .u8 0, .int .u8 0] : Array Value) = dcells zero32 := rfl

/-- a digest stored into a component -/
theorem there_dig {c : V.Comp} (hc : CompWf c) {w : World} {C : Nat} {t : TypeId} (hg : w.heap[C]? = some (.cells (ccells c) t (0, 0))) : w.there C 4 32 := fun j hj => by
  refine ⟨?_, frozen_of_row w C _ _ _ hg⟩
  rw [cell_of_row w C _ _ _ _ hg, Array.getElem?_eq_getElem (by rw [hc.size]; omega)]
  rfl
theorem range_dig {c : V.Comp} (hc : CompWf c) {w : World} {C : Nat} {t : TypeId} (hg : w.heap[C]? = some (.cells (ccells c) t (0, 0))) {d : List Int} (hd : d.length = 32) :
    (w.setCells C 4 (dcells d).toList).rangeAt C 0 (cellsL { c with dig := d }) := fun j v hv => by
  rw [Nat.zero_add]
  have hl : (dcells d).toList.length = 32 := by rw [Array.length_toList, dcells_size hd]
  by_cases h4 : j < 4
  · rw [World.cell?_setCells_out C _ 4 w ⟨C, j, none⟩ (fun _ _ => .inl h4), cell_of_row w C j _ _ _ hg]
    have e : (ccells c)[j]? = (cellsL { c with dig := d })[j]? := by
      have h : j = 0 ∨ j = 1 ∨ j = 2 ∨ j = 3 := by omega
      rcases h with rfl | rfl | rfl | rfl <;> rfl
    rw [e, hv]
  · have h := World.rangeAt_setCells_same w C 4 (dcells d).toList (by rw [hl]; exact there_dig hc hg)
    have hj : (dcells d).toList[j - 4]? = some v := by
      have e : (cellsL { c with dig := d })[j]? = (dcellsL d)[j - 4]? := by
        obtain ⟨i, rfl⟩ : ∃ i, j = i + 4 := ⟨j - 4, by omega⟩
        rfl
      exact e.symm.trans hv
    have := h (j - 4) v hj
    rwa [show 4 + (j - 4) = j by omega] at this

/-- at the operation: a digest is stored; the world behind it under a name -/
theorem wl_store_dig {ops : Array Oper} {rest : List Oper} {o : Oper} {a : Act} {w : World} {Q : Exit → Act → World → Prop} (hgd : o.guard = none) (x y : Operand) (ho : o.op = .store 23 x y)
    (b off : Nat) (l : List Int) (hl : l.length = 32) (hx : a.eval x = .pointer (some ⟨b, off, none⟩)) (hy : a.eval y = .agg (dcells l)) (ht : w.there b off 32)
    (W : World) (hW : W = w.setCells b off (dcells l).toList) (h : wpList Tryz.prog ops Q rest (a.put o.dst undef) W) : wpList Tryz.prog ops Q (o :: rest) a w := by
  subst hW
  exact wpList_store_mid hgd _ x y ho b off (dcells l) hx hy (by rw [dcells_size hl]; exact ht) (by rw [digInfo, dcells_size hl]) dig_one h

theorem compIE : ∃ ie z, Tryz.prog.info? 66 = some ie ∧ ie.size = 36 ∧ ie.zero = some z := by
  have h : (match Tryz.prog.info? 66 with | some i => i.size == 36 && i.zero.isSome | none => false) = true := by kernel_rfl
  cases hq : Tryz.prog.info? 66 with
  | none => rw [hq] at h; cases h
  | some i =>
    rw [hq] at h
    simp only [Bool.and_eq_true, beq_iff_eq] at h
    obtain ⟨z, hz⟩ := Option.isSome_iff_exists.1 h.2
    exact ⟨i, z, rfl, h.1, hz⟩
/-- a component loaded, as a step of a region that draws -/
theorem step_load {ops : Array Oper} {o : Oper} {a : Act} {w : World} {K : Act → World → Prop} {Q : Exit → Act → World → Prop} {E : Prop} (hgd : o.guard = none) (x : Operand) (ho : o.op = .load 66 x)
    (b off : Nat) (hx : a.eval x = .pointer (some ⟨b, off, none⟩)) (c : V.Comp) (hc : CompWf c) (hr : w.rangeAt b off (cellsL c)) (h : K (a.put o.dst (.agg (ccells c))) w) :
    if Region.wanted o (yielded ops a.tmps) = true then Oper.wp Tryz.prog o a w K Q else E := by
  rw [if_pos (by simp [Region.wanted, hgd])]
  obtain ⟨d, hu, hd⟩ := compRow
  exact wp_load_mid _ x ho b off hx (cellsL c) d hr hu hd (by rw [compInfo]; have := hc.size; unfold ccells at this; simp at this; rw [this]) h
/-- a call of a Go function, as a step of a region that draws -/
theorem step_call {P : Program} {ops : Array Oper} {o : Oper} {a : Act} {w : World} {K : Act → World → Prop} {Q : Exit → Act → World → Prop} {E : Prop} (hgd : o.guard = none) (f : FuncId) (args : Array Value) {R : Ending → World → Prop}
    (he : (execOp a.eval o).run P w = .ok (.enter f args) w) (hc : Calls P f args w R) (h : ∀ e w', R e w' → ∃ v, e = .returned v ∧ K (a.put o.dst v) w') :
    if Region.wanted o (yielded ops a.tmps) = true then Oper.wp P o a w K Q else E := by
  rw [if_pos (by simp [Region.wanted, hgd])]
  unfold Oper.wp
  rw [he]
  refine hc.mono ?_
  intro e w' hR
  obtain ⟨v, rfl, hK⟩ := h e w' hR
  exact hK
/-- two components laid beside each other -/
theorem step_build2 {ops : Array Oper} {o : Oper} {a : Act} {w : World} {K : Act → World → Prop} {Q : Exit → Act → World → Prop} {E : Prop} (hgd : o.guard = none) (x y : Operand) (ho : o.op = .buildSlice 24 2 #[(0, x), (1, y)])
    (c1 c2 : V.Comp) (h1 : CompWf c1) (h2 : CompWf c2) (hx : a.eval x = .agg (ccells c1)) (hy : a.eval y = .agg (ccells c2))
    (h : K (a.put o.dst (.slice (some ⟨w.heap.size, 0, none⟩) 2 2)) (w.alloc (.cells (cellsL c1 ++ cellsL c2).toArray 66))) :
    if Region.wanted o (yielded ops a.tmps) = true then Oper.wp Tryz.prog o a w K Q else E := by
  rw [if_pos (by simp [Region.wanted, hgd])]
  obtain ⟨ie, z, hie, hsz, hz⟩ := compIE
  refine wp_buildSlice _ 66 2 _ ho (cellsL c1 ++ cellsL c2).toArray ie z Tryz.underlying24 hie hz (by rw [hsz]; decide) (by rw [hsz]; decide) ?_ h
  have := Great.fill_whole (s := 36) (by decide) [Value.agg (ccells c1), Value.agg (ccells c2)] ((Array.range (2 * ie.size)).map (z.cells[· % z.cells.size]!)) (fun v hv => by
    rcases List.mem_cons.1 hv with rfl | hv
    · exact h1.size
    · rcases List.mem_cons.1 hv with rfl | hv
      · exact h2.size
      · cases hv) (by rw [hsz]; simp)
  rw [hsz] at this ⊢
  simp only [hx, hy, List.map_toArray, List.map_cons, List.map_nil]
  exact this.trans (by simp [Value.cells, ccells])

def dig1 (x : Int) : List Int := x :: List.replicate 31 0
def SumPost (b k : Nat) (w : World) (e : Ending) (w' : World) : Prop :=
  ∃ x : Nat, 1 ≤ x ∧ x ≤ 6 ∧ e = .returned (.agg (dcells (dig1 x))) ∧ Tape w' b (k + 1) ∧ w.grownBy w' (some b)

set_option maxRecDepth 100000 in
set_option maxHeartbeats 1600000 in
theorem sum_any (b k : Nat) (w : World) (h : Tape w b k) (hk : k ≤ 1000000) :
    Calls Tryz.prog 115 #[.pointer (some ⟨b, 0, none⟩)] w (SumPost b k w) := by
  have HT := Lib.hid h
  have hbw := h.lt
  clear h
  go_enter Tryz.func115, Tryz.ntmps115
  go_wp2_with fail
  rw [zero_dig]
  obtain ⟨W0, hW0⟩ : ∃ W0, W0 = w.alloc (.cells (dcells zero32) 23) := ⟨_, rfl⟩
  have hg0 : W0.heap[w.heap.size]? = some (.cells (dcells zero32) 23 (0, 0)) := by rw [hW0]; exact heap_alloc_new w _
  have hz0 : W0.heap.size = w.heap.size + 1 := by rw [hW0]; simp
  have hb0 : Below w.heap.size w W0 := by rw [hW0]; exact (Below.refl _ w).alloc (Nat.le_refl _) _
  rw [← hW0]
  clear hW0
  refine (next_any b k 6 _ (HT.out.below hb0) (by omega) (by omega) (by omega)).mono ?_
  rintro e w1 ⟨r, hr, rfl, ht1, hg1⟩
  have HG1 := Lib.hid (World.grownBy.trans (below_grown hb0 (some b)) hg1)
  have HT1 := Lib.hid ht1
  have HR1 : Hid (w1.heap[w.heap.size]? = some (.cells (dcells zero32) 23 (0, 0))) := Lib.hid ((hg1.block _ (by omega) (by simp; omega)).trans hg0)
  have hw1 : IntKind.u8.wrap (1 + (r : Int)) = 1 + (r : Int) := by rw [IntKind.wrap_u8]; omega
  have hz1 : w.heap.size < w1.heap.size := Nat.lt_of_lt_of_le (by omega) hg1.size
  clear hg0 hz0 hb0 ht1 hg1
  go_wp2_with (first | (refine wpList_store_row rfl _ _ _ rfl w.heap.size (dcells (dig1 (1 + (r : Int)))) rfl rfl 23 _ HR1.out (by rw [digInfo]; rfl) rfl dig_one ?_) | fail)
  refine bodyPost_ret (v := .agg (dcells (dig1 (1 + (r : Int))))) ?_ rfl ⟨r + 1, by omega, by omega, ?_, ?_, ?_⟩
  · exact results_one Tryz.results115 rfl (loadVar_dig rfl (setRow_heap w1 w.heap.size _ _ _ _ HR1.out))
  · rw [show (1 + (r : Int)) = ((r + 1 : Nat) : Int) by omega]
  · refine Tape.grown HT1.out (row := some w.heap.size) ?_ (by simp; omega) (by intro b' e; cases e; omega)
    exact setRow_grown _ _ _
  · exact grown_new HG1.out (setRow_grown _ _ _) (Nat.le_refl _)
end Go.Proofs.YtpjjkbdkgaehkaaGreatDoor
namespace Go.Proofs.YtpjjkbdkgaehkaaGreatDoor
open Go.RowKit

theorem laidOutK : laidOutB Tryz.prog = true := by kernel_rfl
theorem size_ge : ∃ m, Tryz.prog.types.size = m + 2 := ⟨Tryz.prog.types.size - 2, by
  have h : decide (2 ≤ Tryz.prog.types.size) = true := by kernel_rfl
  have := of_decide_eq_true h
  omega⟩
theorem mapM_some {α β : Type} {f : α → Option β} {g : α → β} : ∀ {l : List α}, (∀ x ∈ l, f x = some (g x)) → l.mapM f = some (l.map g)
  | [], _ => rfl
  | a :: l, h => by
    rw [List.mapM_cons, h a (by simp), mapM_some (fun x hx => h x (by simp [hx]))]
    rfl

theorem cells_u8 : Tryz.prog.cellsOf 5 = 1 := by kernel_rfl
theorem cells_dig : Tryz.prog.cellsOf 23 = 32 := by kernel_rfl
theorem cells_comp : Tryz.prog.cellsOf 66 = 36 := by kernel_rfl
theorem cells_int : Tryz.prog.cellsOf 3 = 1 := by kernel_rfl
theorem cells_str : Tryz.prog.cellsOf 9 = 1 := by kernel_rfl

def digLits (l : List Int) : List Lit := l.map fun n => Lit.int .u8 n
theorem range_getD (l : List Int) : ((List.range l.length).map fun i => [Lit.int .u8 (l.getD i 0)]).flatten = digLits l := by
  unfold digLits
  apply List.ext_getElem?
  intro i
  have e : ∀ r : List Nat, (r.map fun i => [Lit.int .u8 (l.getD i 0)]).flatten = r.map fun i => Lit.int .u8 (l.getD i 0) := fun r => by
    induction r with
    | nil => rfl
    | cons a r ih => rw [List.map_cons, List.map_cons, List.flatten_cons, ih]; rfl
  rw [e, List.getElem?_map, List.getElem?_map]
  by_cases h : i < l.length
  · rw [List.getElem?_range h, List.getElem?_eq_getElem h]
    simp [List.getD, List.getElem?_eq_getElem h]
  · rw [List.getElem?_eq_none (by simpa using h), List.getElem?_eq_none (by omega)]
    rfl

theorem dig_lits (d : Nat) {l : List Int} (hl : l.length = 32) (hw : ∀ n ∈ l, (Lit.int .u8 n).wf = true) : Tryz.prog.keyLits (d + 2) 23 (dcellsL l) = some (digLits l) := by
  have hlen : (dcellsL l).length = 32 := by unfold dcellsL; simp [hl]
  unfold Program.keyLits
  simp only [Tryz.underlying23]
  rw [if_pos (by rw [hlen, cells_dig])]
  rw [mapM_some (g := fun i => [Lit.int .u8 (l.getD i 0)]) (fun i hi => ?_)]
  · rw [Option.map_some, ← range_getD l, hl]
  · have hi' : i < l.length := by rw [hl]; simpa using hi
    have e : ((dcellsL l).drop (i * Tryz.prog.cellsOf 5)).take (Tryz.prog.cellsOf 5) = [Value.int .u8 (l.getD i 0)] := by
      rw [cells_u8, Nat.mul_one, List.drop_eq_getElem_cons (by rw [hlen]; omega)]
      unfold dcellsL
      simp [List.getD, List.getElem?_eq_getElem hi']
    rw [e]
    unfold Program.keyLits
    simp only [Tryz.underlying5]
    rw [if_pos ⟨by trivial, hw _ (by rw [List.getD_eq_getElem?_getD, List.getElem?_eq_getElem hi']; exact List.getElem_mem _)⟩]

def compLits (c : V.Comp) : List Lit := .int .i64 c.par :: .int .i64 c.sch :: .string c.name :: .string c.ver :: digLits c.dig
theorem comp_lits (d : Nat) {c : V.Comp} (h : CompWf c) : Tryz.prog.keyLits (d + 3) 66 (cellsL c) = some (compLits c) := by
  have hlen : (cellsL c).length = 36 := by have := h.size; unfold ccells at this; simpa using this
  have hd := dig_lits d h.len h.dig
  have hn : (⟨c.name.toArray⟩ : ByteArray).size ≤ maxLen := by show c.name.toArray.size ≤ _; simpa using h.name
  have hv : (⟨c.ver.toArray⟩ : ByteArray).size ≤ maxLen := by show c.ver.toArray.size ≤ _; simpa using h.ver
  have k1 : ∀ n : Int, (Lit.int .i64 n).wf = true → Tryz.prog.keyLits (d + 2) 3 [.int .i64 n] = some [.int .i64 n] := fun n hw => by
    unfold Program.keyLits
    simp only [Tryz.underlying3]
    rw [if_pos ⟨by trivial, hw⟩]
  have k2 : ∀ s : ByteArray, s.size ≤ maxLen → Tryz.prog.keyLits (d + 2) 9 [.string s] = some [.string s.data.toList] := fun s hw => by
    unfold Program.keyLits
    simp only [Tryz.underlying9]
    rw [if_pos hw]
  have htake : (dcellsL c.dig).take 32 = dcellsL c.dig := List.take_of_length_le (by unfold dcellsL; simp [h.len])
  unfold Program.keyLits
  simp only [Tryz.underlying66]
  rw [if_pos ⟨by rw [hlen, cells_comp], by decide +kernel⟩]
  have e4 : ((cellsL c).drop 4).take 32 = dcellsL c.dig := htake
  simp only [List.mapM_cons, List.mapM_nil, cells_int, cells_str, cells_dig]
  rw [show ((cellsL c).drop 0).take 1 = [.int .i64 c.par] from rfl, show ((cellsL c).drop 1).take 1 = [.int .i64 c.sch] from rfl, show ((cellsL c).drop 2).take 1 = [.string ⟨c.name.toArray⟩] from rfl, show ((cellsL c).drop 3).take 1 = [.string ⟨c.ver.toArray⟩] from rfl, e4,
    k1 _ h.par, k1 _ h.sch, k2 _ hn, k2 _ hv, hd]
  simp [compLits]

theorem key_dig {l : List Int} (hl : l.length = 32) (hw : ∀ n ∈ l, (Lit.int .u8 n).wf = true) : keyOf Tryz.prog 23 (.agg (dcells l)) = some (.string (keyBytes (digLits l))) := by
  obtain ⟨m, hm⟩ := size_ge
  unfold keyOf
  simp only [Tryz.underlying23]
  rw [if_pos (by rw [Bool.and_eq_true]; exact ⟨by kernel_rfl, by simp [Value.formed, Tryz.underlying23, dcells_size hl, cells_dig]⟩), hm]
  show Option.map _ (Tryz.prog.keyLits (m + 1 + 2) 23 (dcells l).toList) = _
  rw [show (dcells l).toList = dcellsL l from rfl, dig_lits (m + 1) hl hw]
  rfl
theorem key_comp {c : V.Comp} (h : CompWf c) : keyOf Tryz.prog 66 (.agg (ccells c)) = some (.string (keyBytes (compLits c))) := by
  obtain ⟨m, hm⟩ := size_ge
  unfold keyOf
  simp only [Tryz.underlying66]
  rw [if_pos (by rw [Bool.and_eq_true]; exact ⟨by kernel_rfl, by simp [Value.formed, Tryz.underlying66, h.size, cells_comp]⟩), hm]
  show Option.map _ (Tryz.prog.keyLits (m + 3) 66 (ccells c).toList) = _
  rw [show (ccells c).toList = cellsL c from rfl, comp_lits m h]
  rfl
theorem digLits_inj {a b : List Int} (h : digLits a = digLits b) : a = b := by
  unfold digLits at h
  exact List.map_inj_right (fun x y e => by injection e) |>.1 h
theorem compLits_inj {a b : V.Comp} (h : compLits a = compLits b) : a = b := by
  unfold compLits at h
  simp only [List.cons.injEq, Lit.int.injEq, Lit.string.injEq, true_and] at h
  obtain ⟨h1, h2, h3, h4, h5⟩ := h
  have := digLits_inj h5
  cases a; cases b
  simp_all

/-- '==' on components -/
theorem eq_comp {a b : V.Comp} (ha : CompWf a) (hb : CompWf b) (w : World) : (Op.equalIn 10000 66 (.agg (ccells a)) (.agg (ccells b))).run Tryz.prog w = .ok (decide (a = b)) w := by
  obtain ⟨r, hr, hiff⟩ := run_equal_deep (P := Tryz.prog) w (m := 20) (by decide) (k := 66) (by kernel_rfl) (by kernel_rfl) (key_comp ha) (key_comp hb)
  have : (r = true ↔ a = b) := by
    rw [hiff]
    constructor
    · intro e
      obtain ⟨m, hm⟩ := size_ge
      exact compLits_inj (keyLits_inj (comp_lits 0 ha) (comp_lits 0 hb) (by simpa using e))
    · intro e; rw [e]
  have e : r = decide (a = b) := by
    by_cases h : a = b
    · rw [this.2 h]; simp [h]
    · rcases r with _ | _
      · simp [h]
      · exact absurd (this.1 rfl) h
  rw [e] at hr
  exact hr
/-- '==' on digests -/
theorem eq_dig {a b : List Int} (ha : a.length = 32) (wa : ∀ n ∈ a, (Lit.int .u8 n).wf = true) (hb : b.length = 32) (wb : ∀ n ∈ b, (Lit.int .u8 n).wf = true) (w : World) :
    (Op.equalIn 10000 23 (.agg (dcells a)) (.agg (dcells b))).run Tryz.prog w = .ok (decide (a = b)) w := by
  obtain ⟨r, hr, hiff⟩ := run_equal_deep (P := Tryz.prog) w (m := 20) (by decide) (k := 23) (by kernel_rfl) (by kernel_rfl) (key_dig ha wa) (key_dig hb wb)
  have : (r = true ↔ a = b) := by
    rw [hiff]
    constructor
    · intro e
      exact digLits_inj (keyLits_inj (dig_lits 0 ha wa) (dig_lits 0 hb wb) (by simpa using e))
    · intro e; rw [e]
  have e : r = decide (a = b) := by
    by_cases h : a = b
    · rw [this.2 h]; simp [h]
    · rcases r with _ | _
      · simp [h]
      · exact absurd (this.1 rfl) h
  rw [e] at hr
  exact hr

/-- at the operation: '==' and '!=' of two structs or arrays -/
theorem wl_eql {P : Program} {ops : Array Oper} {rest : List Oper} {o : Oper} {a : Act} {w : World} {Q : Exit → Act → World → Prop} (hgd : o.guard = none) (T T2 : TypeId) (x y : Operand) (ho : o.op = .binOp .eql T x y T2)
    (xs ys : Array Value) (hx : a.eval x = .agg xs) (hy : a.eval y = .agg ys) (hm : P.eqGuardType P.depth T = false) (r : Bool) (hr : (Op.equalIn 10000 T (.agg xs) (.agg ys)).run P w = .ok r w)
    (h : wpList P ops Q rest (a.put o.dst (.bool r)) w) : wpList P ops Q (o :: rest) a w := by
  refine wpList_plain hgd fun K hK => ?_
  unfold Oper.wp execOp
  simp only [ho, hx, hy, Sem.run_bind, run_eqGuard_agg w .eql T x y xs ys hm, Result.andThen_ok, run_eql_struct, hr, Sem.run_pure]
  exact hK _ _ h
theorem wl_neq {P : Program} {ops : Array Oper} {rest : List Oper} {o : Oper} {a : Act} {w : World} {Q : Exit → Act → World → Prop} (hgd : o.guard = none) (T T2 : TypeId) (x y : Operand) (ho : o.op = .binOp .neq T x y T2)
    (xs ys : Array Value) (hx : a.eval x = .agg xs) (hy : a.eval y = .agg ys) (hm : P.eqGuardType P.depth T = false) (r : Bool) (hr : (Op.equalIn 10000 T (.agg xs) (.agg ys)).run P w = .ok r w)
    (h : wpList P ops Q rest (a.put o.dst (.bool (!r))) w) : wpList P ops Q (o :: rest) a w := by
  refine wpList_plain hgd fun K hK => ?_
  unfold Oper.wp execOp
  simp only [ho, hx, hy, Sem.run_bind, run_eqGuard_agg w .neq T x y xs ys hm, Result.andThen_ok, run_neq_struct, hr, Sem.run_pure]
  exact hK _ _ h
theorem guard_comp : Tryz.prog.eqGuardType Tryz.prog.depth 66 = false := by kernel_rfl
theorem guard_dig : Tryz.prog.eqGuardType Tryz.prog.depth 23 = false := by kernel_rfl
end Go.Proofs.YtpjjkbdkgaehkaaGreatDoor
