/-
  Digests and components compared: the model's '==' on them.
-/
import Derived.Test.YtoiabbhppbghdaaJG
import Derived.DeepKeys5
import Derived.Laws.StructEq
namespace Go.Proofs.Ytoiabbhppbghdaa
open Go.RowKit

theorem laidOutK : laidOutB Try.prog = true := by kernel_rfl
theorem size_ge : ∃ m, Try.prog.types.size = m + 2 := ⟨Try.prog.types.size - 2, by
  have h : decide (2 ≤ Try.prog.types.size) = true := by kernel_rfl
  have := of_decide_eq_true h
  omega⟩
theorem mapM_some {α β : Type} {f : α → Option β} {g : α → β} : ∀ {l : List α}, (∀ x ∈ l, f x = some (g x)) → l.mapM f = some (l.map g)
  | [], _ => rfl
  | a :: l, h => by
    rw [List.mapM_cons, h a (by simp), mapM_some (fun x hx => h x (by simp [hx]))]
    rfl

theorem cells_u8 : Try.prog.cellsOf 5 = 1 := by kernel_rfl
theorem cells_dig : Try.prog.cellsOf 24 = 32 := by kernel_rfl
theorem cells_comp : Try.prog.cellsOf 47 = 36 := by kernel_rfl
theorem cells_int : Try.prog.cellsOf 3 = 1 := by kernel_rfl
theorem cells_str : Try.prog.cellsOf 9 = 1 := by kernel_rfl

def digLits (l : List Int) : List Lit := l.map fun n => Lit.int .u8 n
theorem range_getD (l : List Int) : ((List.range l.length).map fun i => [Lit.int .u8 (l.getD i 0)]).flatten = digLits l := by
  unfold digLits
  apply List.ext_getElem?
  intro i
  have e : ∀ r : List Nat, (r.map fun i => [Lit.int .u8 (l.getD i 0)]).flatten = r.map fun i => Lit.int .u8 (l.getD i 0) := fun r => by
    induction r with
    | nil => rfl
    | cons a r ih => rw [List.map_cons, List.map_cons, List.flatten_cons, ih]; rfl
  rw [e, List.getElem?_map, List.getElem?_map]
  by_cases h : i < l.length
  · rw [List.getElem?_range h, List.getElem?_eq_getElem h]
    simp [List.getD, List.getElem?_eq_getElem h]
  · rw [List.getElem?_eq_none (by simpa using h), List.getElem?_eq_none (by omega)]
    rfl

theorem dig_lits (d : Nat) {l : List Int} (hl : l.length = 32) (hw : ∀ n ∈ l, (Lit.int .u8 n).wf = true) : Try.prog.keyLits (d + 2) 24 (dcellsL l) = some (digLits l) := by
  have hlen : (dcellsL l).length = 32 := by unfold dcellsL; simp [hl]
  unfold Program.keyLits
  simp only [Try.underlying24]
  rw [if_pos (by rw [hlen, cells_dig])]
  rw [mapM_some (g := fun i => [Lit.int .u8 (l.getD i 0)]) (fun i hi => ?_)]
  · rw [Option.map_some, ← range_getD l, hl]
  · have hi' : i < l.length := by rw [hl]; simpa using hi
    have e : ((dcellsL l).drop (i * Try.prog.cellsOf 5)).take (Try.prog.cellsOf 5) = [Value.int .u8 (l.getD i 0)] := by
      rw [cells_u8, Nat.mul_one, List.drop_eq_getElem_cons (by rw [hlen]; omega)]
      unfold dcellsL
      simp [List.getD, List.getElem?_eq_getElem hi']
    rw [e]
    unfold Program.keyLits
    simp only [Try.underlying5]
    rw [if_pos ⟨by trivial, hw _ (by rw [List.getD_eq_getElem?_getD, List.getElem?_eq_getElem hi']; exact List.getElem_mem _)⟩]

def compLits (c : V.Comp) : List Lit := .int .i64 c.par :: .int .i64 c.sch :: .string c.name :: .string c.ver :: digLits c.dig
theorem comp_lits (d : Nat) {c : V.Comp} (h : CompWf c) : Try.prog.keyLits (d + 3) 47 (cellsL c) = some (compLits c) := by
  have hlen : (cellsL c).length = 36 := by have := h.size; unfold ccells at this; simpa using this
  have hd := dig_lits d h.len h.dig
  have hn : (⟨c.name.toArray⟩ : ByteArray).size ≤ maxLen := by show c.name.toArray.size ≤ _; simpa using h.name
  have hv : (⟨c.ver.toArray⟩ : ByteArray).size ≤ maxLen := by show c.ver.toArray.size ≤ _; simpa using h.ver
  have k1 : ∀ n : Int, (Lit.int .i64 n).wf = true → Try.prog.keyLits (d + 2) 3 [.int .i64 n] = some [.int .i64 n] := fun n hw => by
    unfold Program.keyLits
    simp only [Try.underlying3]
    rw [if_pos ⟨by trivial, hw⟩]
  have k2 : ∀ s : ByteArray, s.size ≤ maxLen → Try.prog.keyLits (d + 2) 9 [.string s] = some [.string s.data.toList] := fun s hw => by
    unfold Program.keyLits
    simp only [Try.underlying9]
    rw [if_pos hw]
  have htake : (dcellsL c.dig).take 32 = dcellsL c.dig := List.take_of_length_le (by unfold dcellsL; simp [h.len])
  unfold Program.keyLits
  simp only [Try.underlying47]
  rw [if_pos ⟨by rw [hlen, cells_comp], by decide +kernel⟩]
  have e4 : ((cellsL c).drop 4).take 32 = dcellsL c.dig := htake
  simp only [List.mapM_cons, List.mapM_nil, cells_int, cells_str, cells_dig]
  rw [show ((cellsL c).drop 0).take 1 = [.int .i64 c.par] from rfl, show ((cellsL c).drop 1).take 1 = [.int .i64 c.sch] from rfl, show ((cellsL c).drop 2).take 1 = [.string ⟨c.name.toArray⟩] from rfl, show ((cellsL c).drop 3).take 1 = [.string ⟨c.ver.toArray⟩] from rfl, e4,
    k1 _ h.par, k1 _ h.sch, k2 _ hn, k2 _ hv, hd]
  simp [compLits]

theorem key_dig {l : List Int} (hl : l.length = 32) (hw : ∀ n ∈ l, (Lit.int .u8 n).wf = true) : keyOf Try.prog 24 (.agg (dcells l)) = some (.string (keyBytes (digLits l))) := by
  obtain ⟨m, hm⟩ := size_ge
  unfold keyOf
  simp only [Try.underlying24]
  rw [if_pos (by rw [Bool.and_eq_true]; exact ⟨by kernel_rfl, by simp [Value.formed, Try.underlying24, dcells_size hl, cells_dig]⟩), hm]
  show Option.map _ (Try.prog.keyLits (m + 1 + 2) 24 (dcells l).toList) = _
  rw [show (dcells l).toList = dcellsL l from rfl, dig_lits (m + 1) hl hw]
  rfl
theorem key_comp {c : V.Comp} (h : CompWf c) : keyOf Try.prog 47 (.agg (ccells c)) = some (.string (keyBytes (compLits c))) := by
  obtain ⟨m, hm⟩ := size_ge
  unfold keyOf
  simp only [Try.underlying47]
  rw [if_pos (by rw [Bool.and_eq_true]; exact ⟨by kernel_rfl, by simp [Value.formed, Try.underlying47, h.size, cells_comp]⟩), hm]
  show Option.map _ (Try.prog.keyLits (m + 3) 47 (ccells c).toList) = _
  rw [show (ccells c).toList = cellsL c from rfl, comp_lits m h]
  rfl
theorem digLits_inj {a b : List Int} (h : digLits a = digLits b) : a = b := by
  unfold digLits at h
  exact List.map_inj_right (fun x y e => by injection e) |>.1 h
theorem compLits_inj {a b : V.Comp} (h : compLits a = compLits b) : a = b := by
  unfold compLits at h
  simp only [List.cons.injEq, Lit.int.injEq, Lit.string.injEq, true_and] at h
  obtain ⟨h1, h2, h3, h4, h5⟩ := h
  have := digLits_inj h5
  cases a; cases b
  simp_all

/-- '==' on components -/
theorem eq_comp {a b : V.Comp} (ha : CompWf a) (hb : CompWf b) (w : World) : (Op.equalIn 10000 47 (.agg (ccells a)) (.agg (ccells b))).run Try.prog w = .ok (decide (a = b)) w := by
  obtain ⟨r, hr, hiff⟩ := run_equal_deep (P := Try.prog) w (m := 20) (by decide) (k := 47) (by kernel_rfl) (by kernel_rfl) (key_comp ha) (key_comp hb)
  have : (r = true ↔ a = b) := by
    rw [hiff]
    constructor
    · intro e
      obtain ⟨m, hm⟩ := size_ge
      exact compLits_inj (keyLits_inj (comp_lits 0 ha) (comp_lits 0 hb) (by simpa using e))
    · intro e; rw [e]
  have e : r = decide (a = b) := by
    by_cases h : a = b
    · rw [this.2 h]; simp [h]
    · rcases r with _ | _
      · simp [h]
      · exact absurd (this.1 rfl) h
  rw [e] at hr
  exact hr
/-- '==' on digests -/
theorem eq_dig {a b : List Int} (ha : a.length = 32) (wa : ∀ n ∈ a, (Lit.int .u8 n).wf = true) (hb : b.length = 32) (wb : ∀ n ∈ b, (Lit.int .u8 n).wf = true) (w : World) :
    (Op.equalIn 10000 24 (.agg (dcells a)) (.agg (dcells b))).run Try.prog w = .ok (decide (a = b)) w := by
  obtain ⟨r, hr, hiff⟩ := run_equal_deep (P := Try.prog) w (m := 20) (by decide) (k := 24) (by kernel_rfl) (by kernel_rfl) (key_dig ha wa) (key_dig hb wb)
  have : (r = true ↔ a = b) := by
    rw [hiff]
    constructor
    · intro e
      exact digLits_inj (keyLits_inj (dig_lits 0 ha wa) (dig_lits 0 hb wb) (by simpa using e))
    · intro e; rw [e]
  have e : r = decide (a = b) := by
    by_cases h : a = b
    · rw [this.2 h]; simp [h]
    · rcases r with _ | _
      · simp [h]
      · exact absurd (this.1 rfl) h
  rw [e] at hr
  exact hr

/-- at the operation: '==' and '!=' of two structs or arrays -/
theorem wl_eql {P : Program} {ops : Array Oper} {rest : List Oper} {o : Oper} {a : Act} {w : World} {Q : Exit → Act → World → Prop} (hgd : o.guard = none) (T T2 : TypeId) (x y : Operand) (ho : o.op = .binOp .eql T x y T2)
    (xs ys : Array Value) (hx : a.eval x = .agg xs) (hy : a.eval y = .agg ys) (hm : P.eqGuardType P.depth T = false) (r : Bool) (hr : (Op.equalIn 10000 T (.agg xs) (.agg ys)).run P w = .ok r w)
    (h : wpList P ops Q rest (a.put o.dst (.bool r)) w) : wpList P ops Q (o :: rest) a w := by
  refine wpList_plain hgd fun K hK => ?_
  unfold Oper.wp execOp
  simp only [ho, hx, hy, Sem.run_bind, run_eqGuard_agg w .eql T x y xs ys hm, Result.andThen_ok, run_eql_struct, hr, Sem.run_pure]
  exact hK _ _ h
theorem wl_neq {P : Program} {ops : Array Oper} {rest : List Oper} {o : Oper} {a : Act} {w : World} {Q : Exit → Act → World → Prop} (hgd : o.guard = none) (T T2 : TypeId) (x y : Operand) (ho : o.op = .binOp .neq T x y T2)
    (xs ys : Array Value) (hx : a.eval x = .agg xs) (hy : a.eval y = .agg ys) (hm : P.eqGuardType P.depth T = false) (r : Bool) (hr : (Op.equalIn 10000 T (.agg xs) (.agg ys)).run P w = .ok r w)
    (h : wpList P ops Q rest (a.put o.dst (.bool (!r))) w) : wpList P ops Q (o :: rest) a w := by
  refine wpList_plain hgd fun K hK => ?_
  unfold Oper.wp execOp
  simp only [ho, hx, hy, Sem.run_bind, run_eqGuard_agg w .neq T x y xs ys hm, Result.andThen_ok, run_neq_struct, hr, Sem.run_pure]
  exact hK _ _ h
theorem guard_comp : Try.prog.eqGuardType Try.prog.depth 47 = false := by kernel_rfl
theorem guard_dig : Try.prog.eqGuardType Try.prog.depth 24 = false := by kernel_rfl
end Go.Proofs.Ytoiabbhppbghdaa
