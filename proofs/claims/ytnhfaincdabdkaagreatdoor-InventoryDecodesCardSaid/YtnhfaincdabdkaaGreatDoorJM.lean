/-
  Walks: names of schemes; package URLs made.
  Digests and components compared: the model's '==' on them.
  Walks: an inventory of no components is valid; the check of the laws on inventories.
  Slices of components; laws at guarded operations; a map of components.
-/
import Derived.Test.YtnhfaincdabdkaaGreatDoorJC
import Derived.Test.YtnhfaincdabdkaaGreatDoorL5
import Derived.Test.YtnhfaincdabdkaaGreatDoorDC
import Derived.StillTailTactics
import Derived.DeepKeys5
import Derived.Laws.StructEq
import Derived.Maps.Own
import Derived.Maps.OwnSet
namespace Go.Proofs.YtnhfaincdabdkaaGreatDoor
open Go.RowKit

set_option maxRecDepth 100000 in
set_option maxHeartbeats 400000 in
theorem schName_any (n : Int) (w : World) :
    Calls Tryz.prog 59 #[.int .i64 n] w fun e w' => e = .returned (.string ⟨(V.schName n).toArray⟩) ∧ w' = w := by
  by_cases h1 : n = 1
  · subst h1
    go_enter Tryz.func59, Tryz.ntmps59
    go_wp2
    go_ret
    exact ⟨rfl, rfl⟩
  · by_cases h2 : n = 2
    · subst h2
      go_enter Tryz.func59, Tryz.ntmps59
      go_wp2
      go_ret
      exact ⟨rfl, rfl⟩
    · by_cases h3 : n = 3
      · subst h3
        go_enter Tryz.func59, Tryz.ntmps59
        go_wp2
        go_ret
        exact ⟨rfl, rfl⟩
      · have HN : Hid (V.schName n = []) := Lib.hid (by unfold V.schName; rw [if_neg h1, if_neg h2, if_neg h3])
        go_enter Tryz.func59, Tryz.ntmps59
        go_wp2
        go_ret
        exact ⟨by rw [HN.out]; rfl, rfl⟩

theorem ret_two {a b : ByteArray} {x y : Int} (h : a = b) (g : x = y) : Ending.returned (.tuple #[.string a, .int .i64 x]) = .returned (.tuple #[.string b, .int .i64 y]) := by rw [h, g]

set_option maxRecDepth 100000 in
set_option maxHeartbeats 1600000 in
theorem purl_any (c : V.Comp) (w : World) (hm : MaxOk w) (hc : CompWf c) :
    Calls Tryz.prog 61 #[cval c] w fun e w' => e = .returned (.tuple #[.string ⟨(V.purlR c).1.toArray⟩, .int .i64 (V.purlR c).2]) ∧ Below w.heap.size w w' := by
  have HM := Lib.hid hm
  have HC := Lib.hid hc
  have hcs := hc.size
  have h1 := ccells_1 c
  have h2 := ccells_2 c
  have h3 := ccells_3 c
  clear hm hc
  unfold cval
  go_enter Tryz.func61, Tryz.ntmps61
  go_wp2_with (first | (refine wl_load rfl _ rfl w.heap.size 0 rfl c HC.out (range_new c w _) ?_) | fail)
  refine (component_any c _ (HM.out.below ((Below.refl _ w).alloc (Nat.le_refl _) _)) HC.out).mono ?_
  rintro e w1 ⟨rfl, hb1⟩
  have hb0 := (Below.refl w.heap.size w).alloc (Nat.le_refl _) (.cells (ccells c) 88)
  have HB1 := Lib.hid (hb0.trans (hb1.mono hb0.size))
  have hc1 : w1.cell? ⟨w.heap.size, 1, none⟩ = some (.int .i64 c.sch) := by rw [hb1.cell (p := ⟨w.heap.size, 1, none⟩) (by simp), World.cell?_alloc_new]; exact h1
  have hc2 : w1.cell? ⟨w.heap.size, 2, none⟩ = some (.string ⟨c.name.toArray⟩) := by rw [hb1.cell (p := ⟨w.heap.size, 2, none⟩) (by simp), World.cell?_alloc_new]; exact h2
  have hc3 : w1.cell? ⟨w.heap.size, 3, none⟩ = some (.string ⟨c.ver.toArray⟩) := by rw [hb1.cell (p := ⟨w.heap.size, 3, none⟩) (by simp), World.cell?_alloc_new]; exact h3
  clear hb0 hb1 h1 h2 h3 hcs
  rcases hk : V.compOk c with _ | _
  · have HR : Hid (V.purlR c = ([], 1)) := Lib.hid (by unfold V.purlR; rw [hk]; rfl)
    clear hk
    go_wp2
    go_ret2
    exact ⟨by rw [HR.out]; rfl, HB1.out⟩
  · have HR : Hid (V.purlR c = (V.purl c, 0)) := Lib.hid (by unfold V.purlR; rw [hk]; rfl)
    obtain ⟨ln, lv⟩ := V.compOk_len hk
    have ls := V.schName_len c.sch
    have HSN := fun w => schName_any c.sch w
    have HP : Hid (V.purl c = V.pkg ++ V.schName c.sch ++ [47] ++ c.name ++ [64] ++ c.ver) := rfl
    clear hk
    generalize V.schName c.sch = sn at *
    generalize c.name = nm at *
    generalize c.ver = vr at *
    have s1 : ¬ (9223372036854775807 < 4 + sn.length) := by omega
    have s2 : ¬ (9223372036854775807 < 4 + sn.length + 1) := by omega
    have s3 : ¬ (9223372036854775807 < 4 + sn.length + 1 + nm.length) := by omega
    have s4 : ¬ (9223372036854775807 < 4 + sn.length + 1 + nm.length + 1) := by omega
    have s5 : ¬ (9223372036854775807 < 4 + sn.length + 1 + nm.length + 1 + vr.length) := by omega
    have SN := Lib.hid HSN
    clear HSN
    go_wp2
    go_quiet ((go_at_call 59; exact Calls.quiet_of_same (SN.out _)))
    rename_i nq
    go_wp2
    go_ret2
    exact ⟨ret_two (bs_ext (by rw [HR.out]; simp only [HP.out]; rw [bs_mk]; simp [V.pkg])) (by rw [HR.out]), HB1.out.trans (below_drewN (Below.refl _ _) nq |>.mono HB1.out.size)⟩

end Go.Proofs.YtnhfaincdabdkaaGreatDoor
namespace Go.Proofs.YtnhfaincdabdkaaGreatDoor
open Go.RowKit

theorem laidOutK : laidOutB Tryz.prog = true := by kernel_rfl
theorem size_ge : ∃ m, Tryz.prog.types.size = m + 2 := ⟨Tryz.prog.types.size - 2, by
  have h : decide (2 ≤ Tryz.prog.types.size) = true := by kernel_rfl
  have := of_decide_eq_true h
  omega⟩
theorem mapM_some {α β : Type} {f : α → Option β} {g : α → β} : ∀ {l : List α}, (∀ x ∈ l, f x = some (g x)) → l.mapM f = some (l.map g)
  | [], _ => rfl
  | a :: l, h => by
    rw [List.mapM_cons, h a (by simp), mapM_some (fun x hx => h x (by simp [hx]))]
    rfl

theorem cells_u8 : Tryz.prog.cellsOf 5 = 1 := by kernel_rfl
theorem cells_dig : Tryz.prog.cellsOf 24 = 32 := by kernel_rfl
theorem cells_comp : Tryz.prog.cellsOf 88 = 36 := by kernel_rfl
theorem cells_int : Tryz.prog.cellsOf 3 = 1 := by kernel_rfl
theorem cells_str : Tryz.prog.cellsOf 9 = 1 := by kernel_rfl

def digLits (l : List Int) : List Lit := l.map fun n => Lit.int .u8 n
theorem range_getD (l : List Int) : ((List.range l.length).map fun i => [Lit.int .u8 (l.getD i 0)]).flatten = digLits l := by
  unfold digLits
  apply List.ext_getElem?
  intro i
  have e : ∀ r : List Nat, (r.map fun i => [Lit.int .u8 (l.getD i 0)]).flatten = r.map fun i => Lit.int .u8 (l.getD i 0) := fun r => by
    induction r with
    | nil => rfl
    | cons a r ih => rw [List.map_cons, List.map_cons, List.flatten_cons, ih]; rfl
  rw [e, List.getElem?_map, List.getElem?_map]
  by_cases h : i < l.length
  · rw [List.getElem?_range h, List.getElem?_eq_getElem h]
    simp [List.getD, List.getElem?_eq_getElem h]
  · rw [List.getElem?_eq_none (by simpa using h), List.getElem?_eq_none (by omega)]
    rfl

theorem dig_lits (d : Nat) {l : List Int} (hl : l.length = 32) (hw : ∀ n ∈ l, (Lit.int .u8 n).wf = true) : Tryz.prog.keyLits (d + 2) 24 (dcellsL l) = some (digLits l) := by
  have hlen : (dcellsL l).length = 32 := by unfold dcellsL; simp [hl]
  unfold Program.keyLits
  simp only [Tryz.underlying24]
  rw [if_pos (by rw [hlen, cells_dig])]
  rw [mapM_some (g := fun i => [Lit.int .u8 (l.getD i 0)]) (fun i hi => ?_)]
  · rw [Option.map_some, ← range_getD l, hl]
  · have hi' : i < l.length := by rw [hl]; simpa using hi
    have e : ((dcellsL l).drop (i * Tryz.prog.cellsOf 5)).take (Tryz.prog.cellsOf 5) = [Value.int .u8 (l.getD i 0)] := by
      rw [cells_u8, Nat.mul_one, List.drop_eq_getElem_cons (by rw [hlen]; omega)]
      unfold dcellsL
      simp [List.getD, List.getElem?_eq_getElem hi']
    rw [e]
    unfold Program.keyLits
    simp only [Tryz.underlying5]
    rw [if_pos ⟨by trivial, hw _ (by rw [List.getD_eq_getElem?_getD, List.getElem?_eq_getElem hi']; exact List.getElem_mem _)⟩]

def compLits (c : V.Comp) : List Lit := .int .i64 c.par :: .int .i64 c.sch :: .string c.name :: .string c.ver :: digLits c.dig
theorem comp_lits (d : Nat) {c : V.Comp} (h : CompWf c) : Tryz.prog.keyLits (d + 3) 88 (cellsL c) = some (compLits c) := by
  have hlen : (cellsL c).length = 36 := by have := h.size; unfold ccells at this; simpa using this
  have hd := dig_lits d h.len h.dig
  have hn : (⟨c.name.toArray⟩ : ByteArray).size ≤ maxLen := by show c.name.toArray.size ≤ _; simpa using h.name
  have hv : (⟨c.ver.toArray⟩ : ByteArray).size ≤ maxLen := by show c.ver.toArray.size ≤ _; simpa using h.ver
  have k1 : ∀ n : Int, (Lit.int .i64 n).wf = true → Tryz.prog.keyLits (d + 2) 3 [.int .i64 n] = some [.int .i64 n] := fun n hw => by
    unfold Program.keyLits
    simp only [Tryz.underlying3]
    rw [if_pos ⟨by trivial, hw⟩]
  have k2 : ∀ s : ByteArray, s.size ≤ maxLen → Tryz.prog.keyLits (d + 2) 9 [.string s] = some [.string s.data.toList] := fun s hw => by
    unfold Program.keyLits
    simp only [Tryz.underlying9]
    rw [if_pos hw]
  have htake : (dcellsL c.dig).take 32 = dcellsL c.dig := List.take_of_length_le (by unfold dcellsL; simp [h.len])
  unfold Program.keyLits
  simp only [Tryz.underlying88]
  rw [if_pos ⟨by rw [hlen, cells_comp], by decide +kernel⟩]
  have e4 : ((cellsL c).drop 4).take 32 = dcellsL c.dig := htake
  simp only [List.mapM_cons, List.mapM_nil, cells_int, cells_str, cells_dig]
  rw [show ((cellsL c).drop 0).take 1 = [.int .i64 c.par] from rfl, show ((cellsL c).drop 1).take 1 = [.int .i64 c.sch] from rfl, show ((cellsL c).drop 2).take 1 = [.string ⟨c.name.toArray⟩] from rfl, show ((cellsL c).drop 3).take 1 = [.string ⟨c.ver.toArray⟩] from rfl, e4,
    k1 _ h.par, k1 _ h.sch, k2 _ hn, k2 _ hv, hd]
  simp [compLits]

theorem key_dig {l : List Int} (hl : l.length = 32) (hw : ∀ n ∈ l, (Lit.int .u8 n).wf = true) : keyOf Tryz.prog 24 (.agg (dcells l)) = some (.string (keyBytes (digLits l))) := by
  obtain ⟨m, hm⟩ := size_ge
  unfold keyOf
  simp only [Tryz.underlying24]
  rw [if_pos (by rw [Bool.and_eq_true]; exact ⟨by kernel_rfl, by simp [Value.formed, Tryz.underlying24, dcells_size hl, cells_dig]⟩), hm]
  show Option.map _ (Tryz.prog.keyLits (m + 1 + 2) 24 (dcells l).toList) = _
  rw [show (dcells l).toList = dcellsL l from rfl, dig_lits (m + 1) hl hw]
  rfl
theorem key_comp {c : V.Comp} (h : CompWf c) : keyOf Tryz.prog 88 (.agg (ccells c)) = some (.string (keyBytes (compLits c))) := by
  obtain ⟨m, hm⟩ := size_ge
  unfold keyOf
  simp only [Tryz.underlying88]
  rw [if_pos (by rw [Bool.and_eq_true]; exact ⟨by kernel_rfl, by simp [Value.formed, Tryz.underlying88, h.size, cells_comp]⟩), hm]
  show Option.map _ (Tryz.prog.keyLits (m + 3) 88 (ccells c).toList) = _
  rw [show (ccells c).toList = cellsL c from rfl, comp_lits m h]
  rfl
theorem digLits_inj {a b : List Int} (h : digLits a = digLits b) : a = b := by
  unfold digLits at h
  exact List.map_inj_right (fun x y e => by injection e) |>.1 h
theorem compLits_inj {a b : V.Comp} (h : compLits a = compLits b) : a = b := by
  unfold compLits at h
  simp only [List.cons.injEq, Lit.int.injEq, Lit.string.injEq, true_and] at h
  obtain ⟨h1, h2, h3, h4, h5⟩ := h
  have := digLits_inj h5
  cases a; cases b
  simp_all

/-- '==' on components -/
theorem eq_comp {a b : V.Comp} (ha : CompWf a) (hb : CompWf b) (w : World) : (Op.equalIn 10000 88 (.agg (ccells a)) (.agg (ccells b))).run Tryz.prog w = .ok (decide (a = b)) w := by
  obtain ⟨r, hr, hiff⟩ := run_equal_deep (P := Tryz.prog) w (m := 20) (by decide) (k := 88) (by kernel_rfl) (by kernel_rfl) (key_comp ha) (key_comp hb)
  have : (r = true ↔ a = b) := by
    rw [hiff]
    constructor
    · intro e
      obtain ⟨m, hm⟩ := size_ge
      exact compLits_inj (keyLits_inj (comp_lits 0 ha) (comp_lits 0 hb) (by simpa using e))
    · intro e; rw [e]
  have e : r = decide (a = b) := by
    by_cases h : a = b
    · rw [this.2 h]; simp [h]
    · rcases r with _ | _
      · simp [h]
      · exact absurd (this.1 rfl) h
  rw [e] at hr
  exact hr
/-- '==' on digests -/
theorem eq_dig {a b : List Int} (ha : a.length = 32) (wa : ∀ n ∈ a, (Lit.int .u8 n).wf = true) (hb : b.length = 32) (wb : ∀ n ∈ b, (Lit.int .u8 n).wf = true) (w : World) :
    (Op.equalIn 10000 24 (.agg (dcells a)) (.agg (dcells b))).run Tryz.prog w = .ok (decide (a = b)) w := by
  obtain ⟨r, hr, hiff⟩ := run_equal_deep (P := Tryz.prog) w (m := 20) (by decide) (k := 24) (by kernel_rfl) (by kernel_rfl) (key_dig ha wa) (key_dig hb wb)
  have : (r = true ↔ a = b) := by
    rw [hiff]
    constructor
    · intro e
      exact digLits_inj (keyLits_inj (dig_lits 0 ha wa) (dig_lits 0 hb wb) (by simpa using e))
    · intro e; rw [e]
  have e : r = decide (a = b) := by
    by_cases h : a = b
    · rw [this.2 h]; simp [h]
    · rcases r with _ | _
      · simp [h]
      · exact absurd (this.1 rfl) h
  rw [e] at hr
  exact hr

/-- at the operation: '==' and '!=' of two structs or arrays -/
theorem wl_eql {P : Program} {ops : Array Oper} {rest : List Oper} {o : Oper} {a : Act} {w : World} {Q : Exit → Act → World → Prop} (hgd : o.guard = none) (T T2 : TypeId) (x y : Operand) (ho : o.op = .binOp .eql T x y T2)
    (xs ys : Array Value) (hx : a.eval x = .agg xs) (hy : a.eval y = .agg ys) (hm : P.eqGuardType P.depth T = false) (r : Bool) (hr : (Op.equalIn 10000 T (.agg xs) (.agg ys)).run P w = .ok r w)
    (h : wpList P ops Q rest (a.put o.dst (.bool r)) w) : wpList P ops Q (o :: rest) a w := by
  refine wpList_plain hgd fun K hK => ?_
  unfold Oper.wp execOp
  simp only [ho, hx, hy, Sem.run_bind, run_eqGuard_agg w .eql T x y xs ys hm, Result.andThen_ok, run_eql_struct, hr, Sem.run_pure]
  exact hK _ _ h
theorem wl_neq {P : Program} {ops : Array Oper} {rest : List Oper} {o : Oper} {a : Act} {w : World} {Q : Exit → Act → World → Prop} (hgd : o.guard = none) (T T2 : TypeId) (x y : Operand) (ho : o.op = .binOp .neq T x y T2)
    (xs ys : Array Value) (hx : a.eval x = .agg xs) (hy : a.eval y = .agg ys) (hm : P.eqGuardType P.depth T = false) (r : Bool) (hr : (Op.equalIn 10000 T (.agg xs) (.agg ys)).run P w = .ok r w)
    (h : wpList P ops Q rest (a.put o.dst (.bool (!r))) w) : wpList P ops Q (o :: rest) a w := by
  refine wpList_plain hgd fun K hK => ?_
  unfold Oper.wp execOp
  simp only [ho, hx, hy, Sem.run_bind, run_eqGuard_agg w .neq T x y xs ys hm, Result.andThen_ok, run_neq_struct, hr, Sem.run_pure]
  exact hK _ _ h
theorem guard_comp : Tryz.prog.eqGuardType Tryz.prog.depth 88 = false := by kernel_rfl
theorem guard_dig : Tryz.prog.eqGuardType Tryz.prog.depth 24 = false := by kernel_rfl
end Go.Proofs.YtnhfaincdabdkaaGreatDoor
namespace Go.Proofs.YtnhfaincdabdkaaGreatDoor
open Go.RowKit

/-- the cells of an inventory -/
def icells (d : List Int) (time : Int) (v : Value) : Array Value := (dcellsL d ++ [.int .i64 time, v]).toArray
theorem icells_range (w : World) (t : TypeId) {d : List Int} (time : Int) (v : Value) (_hd : d.length = 32) : (w.alloc (.cells (icells d time v) t)).rangeAt w.heap.size 0 (dcellsL d) := fun j u hj => by
  rw [Nat.zero_add, World.cell?_alloc_new]
  unfold icells
  have : j < (dcellsL d).length := (List.getElem?_eq_some_iff.1 hj).1
  rw [List.getElem?_toArray, List.getElem?_append_left this]
  exact hj

set_option maxRecDepth 100000 in
set_option maxHeartbeats 1600000 in
theorem validEmpty_any (w : World) :
    Calls Tryz.prog 48 #[.agg (icells (dig1 1) 0 (.slice none 0 0))] w fun e w' => e = .returned (.bool true) ∧ Below w.heap.size w w' := by
  have hd : (dig1 1).length = 32 := rfl
  have h32 : (icells (dig1 1) 0 (.slice none 0 0))[32]? = some (.int .i64 0) := rfl
  have h33 : (icells (dig1 1) 0 (.slice none 0 0))[33]? = some (.slice none 0 0) := rfl
  have HR := Lib.hid (icells_range w 27 0 (.slice none 0 0) hd)
  have HI : Hid ((Tryz.prog.info? 24).map (·.size) = some (dcellsL (dig1 1)).length) := Lib.hid digInfo
  have HQ : Hid (∀ w, (Op.equalIn 10000 24 (.agg (dcells (dig1 1))) (.agg (dcells zero32))).run Tryz.prog w = .ok false w) := Lib.hid (fun w => by
    rw [eq_dig rfl (by decide) rfl (by decide) w]; rfl)
  have hmm := @run_makeMap Tryz.prog
  clear hd
  generalize hic : icells (dig1 1) 0 (.slice none 0 0) = ic at *
  clear hic
  go_enter Tryz.func48, Tryz.ntmps48
  go_wp2_with (first | (refine wpList_load_mid rfl 24 _ rfl w.heap.size 0 rfl (dcellsL (dig1 1)) _ HR.out Tryz.underlying24 rfl HI.out ?_) | (refine wl_eql rfl 24 24 _ _ rfl (dcells (dig1 1)) (dcells zero32) rfl rfl guard_dig false (HQ.out _) ?_) | fail)
  go_loop [30] (fun k => k = .int .i64 ((0 : Nat) : Int)) (fun _ => 0)
  case atStart => exact rfl
  case round =>
    subst hrel
    have hno : ¬ ((0 : Nat) : Int) < ((0 : Nat) : Int) := by omega
    go_wp2
    go_ret
    exact ⟨ret_bool rfl, ((Below.refl _ w).alloc (Nat.le_refl _) _).alloc (by simp) _⟩

def awakeC : V.Comp := ⟨-1, 1, [122, 108, 105, 98], [49, 46, 50, 46, 51], zero32⟩
def awakeP : V.Bs := [112, 107, 103, 58, 115, 101, 109, 118, 101, 114, 47, 122, 108, 105, 98, 64, 49, 46, 50, 46, 51]
theorem awakeC_wf : CompWf awakeC := ⟨by decide, by decide, by decide, by decide, by decide, by decide⟩
theorem awakeC_purl : V.purlR awakeC = (awakeP, 0) := by decide +kernel

set_option maxRecDepth 100000 in
set_option maxHeartbeats 1600000 in
theorem awake19_any (w : World) (hm : MaxOk w) :
    Calls Tryz.prog 19 #[] w fun e w' => e = .returned (.bool true) ∧ Below w.heap.size w w' := by
  have HM := Lib.hid hm
  clear hm
  go_enter Tryz.func19, Tryz.ntmps19
  go_wp2_with fail
  refine (purl_any awakeC _ HM.out awakeC_wf).mono ?_
  rintro e w1 ⟨rfl, hb1⟩
  have HB1 := Lib.hid hb1
  clear hb1
  rw [awakeC_purl]
  go_wp2_with fail
  refine (validEmpty_any _).mono ?_
  rintro e w2 ⟨rfl, hb2⟩
  have HB2 := Lib.hid (HB1.out.trans (hb2.mono HB1.out.size))
  clear hb2
  go_wp2
  go_ret
  exact ⟨ret_bool rfl, HB2.out⟩
end Go.Proofs.YtnhfaincdabdkaaGreatDoor
namespace Go.Proofs.YtnhfaincdabdkaaGreatDoor
open Go.RowKit

/-- v is a slice of the components l -/
def Comps (w : World) (v : Value) (l : List V.Comp) : Prop :=
  ∃ a cap, v = .slice a l.length cap ∧ ∀ j (h : j < l.length), CompWf l[j] ∧ ∃ b off, a = some ⟨b, off, none⟩ ∧ b < w.heap.size ∧ w.rangeAt b (off + j * 36) (cellsL l[j])
theorem Comps.nil (w : World) : Comps w (.slice none 0 0) [] := ⟨none, 0, rfl, fun j h => by simp at h⟩
theorem Comps.below {w w' : World} {v : Value} {l : List V.Comp} (h : Comps w v l) (hb : Below w.heap.size w w') : Comps w' v l := by
  obtain ⟨a, cap, e, hc⟩ := h
  refine ⟨a, cap, e, fun j hj => ?_⟩
  obtain ⟨hw, b, off, ea, hlt, hr⟩ := hc j hj
  exact ⟨hw, b, off, ea, Nat.lt_of_lt_of_le hlt hb.size, rangeAt_below hr hb⟩
theorem Comps.at {w : World} {a : Option Addr} {n cap : Nat} {l : List V.Comp} (h : Comps w (.slice a n cap) l) (j : Nat) (hj : j < l.length) :
    CompWf l[j] ∧ ∃ b off, a = some ⟨b, off, none⟩ ∧ b < w.heap.size ∧ w.rangeAt b (off + j * 36) (cellsL l[j]) := by
  obtain ⟨a', c, e, hc⟩ := h
  cases e
  exact hc j hj

/-- at an operation whose guard holds -/
theorem wl_wanted {P : Program} {ops : Array Oper} {rest : List Oper} {o : Oper} {a : Act} {w : World} {Q : Exit → Act → World → Prop} (hw : Region.wanted o (yielded ops a.tmps) = true)
    (h : ∀ K : Act → World → Prop, (∀ a w, wpList P ops Q rest a w → K a w) → o.wp P a w K Q) : wpList P ops Q (o :: rest) a w :=
  wpList_step fun K hK => by rw [if_pos hw]; exact h K hK
theorem wg_load {ops : Array Oper} {rest : List Oper} {o : Oper} {a : Act} {w : World} {Q : Exit → Act → World → Prop} (hw : Region.wanted o (yielded ops a.tmps) = true) (x : Operand) (ho : o.op = .load 88 x)
    (b off : Nat) (hx : a.eval x = .pointer (some ⟨b, off, none⟩)) (c : V.Comp) (hc : CompWf c) (hr : w.rangeAt b off (cellsL c))
    (h : wpList Tryz.prog ops Q rest (a.put o.dst (.agg (ccells c))) w) : wpList Tryz.prog ops Q (o :: rest) a w :=
  wl_wanted hw fun K hK => by
    obtain ⟨d, hu, hd⟩ := compRow
    exact wp_load_mid _ x ho b off hx (cellsL c) d hr hu hd (by rw [compInfo]; have := hc.size; unfold ccells at this; simp at this; rw [this]) (hK _ _ h)

/-- the map of components -/
def CMap (w : World) (b n : Nat) (l : List V.Comp) : Prop :=
  ∃ D : DataW Unit, w.ownsMap Tryz.prog 88 (Go.plainElem Tryz.prog 4) b n D ∧ (∃ es, D = .map es) ∧ ∀ c, CompWf c → D.atKey (.string (keyBytes (compLits c))) (.lit (.bool false)) = .lit (.bool (decide (c ∈ l)))
set_option maxRecDepth 100000 in
theorem cmap_law : Go.Maps.Keyed Tryz.prog 88 := by
  refine Go.Maps.Keyed.of_law (deep_law_gate laidOutK ?_ ?_ ?_ ?_)
  · exact of_decide_eq_true (by kernel_rfl)
  · exact of_decide_eq_true (by kernel_rfl)
  · kernel_rfl
  · kernel_rfl
set_option maxRecDepth 100000 in
theorem zero_bool (w : World) : (zeroValue 4).run Tryz.prog w = .ok (.bool false) w := by kernel_rfl
theorem CMap.made (w : World) : CMap (w.alloc (.map #[] 0)) w.heap.size 0 [] :=
  ⟨.map [], World.ownsMap_made _ _ _ _, ⟨[], rfl⟩, fun c _ => by simp [DataW.atKey]⟩
theorem CMap.kept {w w' : World} {b n : Nat} {l : List V.Comp} (h : CMap w b n l) (hb : Below w.heap.size w w') : CMap w' b n l := by
  obtain ⟨D, h1, h2, h3⟩ := h
  exact ⟨D, h1.kept (row := none) ⟨hb.os, hb.tape, hb.output, hb.size, fun k hk _ => hb.block k hk⟩ (by simp), h2, h3⟩
theorem keyBytes_inj {a b : V.Comp} (ha : CompWf a) (hb : CompWf b) (h : Lit.string (keyBytes (compLits a)) = .string (keyBytes (compLits b))) : a = b :=
  compLits_inj (keyLits_inj (comp_lits 0 ha) (comp_lits 0 hb) (by simpa using h))
set_option maxRecDepth 100000 in
theorem elem_bool {v : Value} {z : DataW Unit × List MemPlace} (h : Go.plainElem Tryz.prog 4 v = some z) : ∃ x, v = .bool x ∧ z = (.lit (.bool x), []) := by
  unfold Go.plainElem at h
  rw [Tryz.underlying4] at h
  cases v <;> simp at h
  exact ⟨_, rfl, h.symm⟩
set_option maxRecDepth 100000 in
/-- a look-up -/
theorem CMap.look {w : World} {b n : Nat} {l : List V.Comp} (h : CMap w b n l) {c : V.Comp} (hc : CompWf c) : (Instr.lookup 133 (.map (some b)) (.agg (ccells c)) false).run Tryz.prog w = .ok (.bool (decide (c ∈ l))) w := by
  obtain ⟨D, h1, _, h3⟩ := h
  obtain ⟨v, ps, hrun, hv⟩ := h1.lookup cmap_law Tryz.underlying133 (zero_bool w) (Go.plainElem_bool Tryz.underlying4 false) (key_comp hc)
  obtain ⟨x, rfl, hz⟩ := elem_bool hv
  rw [hrun]
  have := (Prod.mk.inj hz).1
  rw [h3 c hc] at this
  injection this with this
  injection this with this
  rw [this]
set_option maxRecDepth 100000 in
theorem wg_lookup {ops : Array Oper} {rest : List Oper} {o : Oper} {a : Act} {w : World} {Q : Exit → Act → World → Prop} (hw : Region.wanted o (yielded ops a.tmps) = true) (m x : Operand) (ho : o.op = .lookup 133 m x false)
    (b n : Nat) (l : List V.Comp) (hm : a.eval m = .map (some b)) (hown : CMap w b n l) (c : V.Comp) (hc : CompWf c) (hx : a.eval x = .agg (ccells c))
    (h : wpList Tryz.prog ops Q rest (a.put o.dst (.bool (decide (c ∈ l)))) w) : wpList Tryz.prog ops Q (o :: rest) a w :=
  wl_wanted hw fun K hK => by
    unfold Oper.wp
    simp [execOp, ho, hm, hx, hown.look hc, Result.andThen]
    exact hK _ _ h
set_option maxRecDepth 100000 in
/-- an entry more -/
theorem wl_update {ops : Array Oper} {rest : List Oper} {o : Oper} {a : Act} {w : World} {Q : Exit → Act → World → Prop} (hg : o.guard = none) (m x v : Operand) (ho : o.op = .mapUpdate 133 m x v)
    (b n : Nat) (l : List V.Comp) (hm : a.eval m = .map (some b)) (hown : CMap w b n l) (hn : n < maxLen) (c : V.Comp) (hc : CompWf c) (hx : a.eval x = .agg (ccells c)) (hv : a.eval v = .bool true)
    (h : ∀ w', CMap w' b (n + 1) (l ++ [c]) → w.grownBy w' (some b) → wpList Tryz.prog ops Q rest (a.put o.dst undef) w') : wpList Tryz.prog ops Q (o :: rest) a w := by
  obtain ⟨D, h1, ⟨es, he⟩, h3⟩ := hown
  refine wpList_mapUpdate_own w hg m x v 133 ho 88 4 cmap_law Tryz.underlying133 (Go.plainElem Tryz.prog 4) b n D hm h1 hn _ _ _ hx hv (key_comp hc) (.lit (.bool true)) [] (Go.plainElem_bool Tryz.underlying4 true) ?_
  intro w' g1 g2
  refine h w' ⟨_, g1, Go.Maps.IsMap.put ⟨es, he⟩ _ _, fun c' hc' => ?_⟩ g2
  by_cases e : c' = c
  · subst e
    rw [Go.Maps.atKey_put_same (k := Lit.string (keyBytes (compLits c'))) ⟨es, he⟩ trivial]
    simp
  · rw [Go.Maps.atKey_put_other (fun g => e (keyBytes_inj hc' hc g)), h3 c' hc']
    congr 2
    simp [e]
end Go.Proofs.YtnhfaincdabdkaaGreatDoor
