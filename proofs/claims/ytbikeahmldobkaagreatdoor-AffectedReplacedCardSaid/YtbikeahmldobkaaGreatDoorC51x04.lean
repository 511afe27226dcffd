/-
  Lemmas for the law.
-/
import Derived.Test.YtbikeahmldobkaaGreatDoorC51x02
import Derived.Test.YtbikeahmldobkaaGreatDoorC51x01
import Derived.Test.YtbikeahmldobkaaGreatDoorC51x03
import Derived.OwnWalk
import Derived.BigRegion
import Derived.Maps.AppendAt
import Derived.Maps.RangeWalk
import Derived.Laws.Rows
import Derived.RangeFuncNested
import Derived.RangeFuncBound
import Derived.RangeFuncCalls
import Derived.RangeFuncLeaves
import Derived.Shelf.Abstract
import Derived.WalkKit
set_option linter.all false
set_option maxRecDepth 100000
set_option maxHeartbeats 1600000
namespace Go.Proofs.YtbikeahmldobkaaGreatDoor
open Go.RowKit
def zj (w : World) : Prop := ∃ m, w.cell? ⟨0, 0, none⟩ = some (.int .i64 m)
theorem zj.below {w w' : World} (h : zj w) (hb : Below w.heap.size w w') : zj w' := by
 obtain ⟨m, hm⟩ := h
 exact ⟨m, (hb.cell (World.block_lt_of_cell? _ _ hm)).trans hm⟩
def Strs (w : World) (v : Value) (l : List V.Bs) : Prop :=
 ∃ a cap, v = .slice a l.length cap /\ ∀ j (h : j < l.length), ∃ b off, a = some ⟨b, off, none⟩ /\ b < w.heap.size /\ w.cell? ⟨b, off + j, none⟩ = some (.string ⟨l[j].toArray⟩)
theorem Strs.nil (w : World) : Strs w (.slice none 0 0) [] := ⟨none, 0, rfl, fun j h => by simp at h⟩
theorem Strs.below {w w' : World} {v : Value} {l : List V.Bs} (h : Strs w v l) (hb : Below w.heap.size w w') : Strs w' v l := by
 obtain ⟨a, cap, e, hc⟩ := h
 refine ⟨a, cap, e, fun j hj => ?_⟩
 obtain ⟨b, off, ea, hlt, hcell⟩ := hc j hj
 exact ⟨b, off, ea, Nat.lt_of_lt_of_le hlt hb.size, (hb.cell (p := ⟨b, off + j, none⟩) hlt).trans hcell⟩
theorem Strs.setCell {w : World} {b o n c : Nat} {l : List V.Bs} (h : Strs w (.slice (some ⟨b, o, none⟩) n c) l) {a : Addr} (ha : a.block ≠ b) (u : Value) : Strs (w.setCell a u) (.slice (some ⟨b, o, none⟩) n c) l := by
 obtain ⟨a', cap, e, hc⟩ := h
 refine ⟨a', cap, e, fun j hj => ?_⟩
 obtain ⟨b', off, ea, hlt, hcell⟩ := hc j hj
 cases e; cases ea
 refine ⟨b, o, rfl, by simpa [World.setCell] using hlt, ?_⟩
 rw [World.cell?_setCell_other _ _ _ _ (by intro e; rw [e] at ha; exact ha rfl)]
 exact hcell
theorem yg (c : UInt8) (l : V.Bs) : (V.cut1 c l).1.length ≤ l.length /\ (V.cut1 c l).2.1.length ≤ l.length := by
 unfold V.cut1
 split
 ·exact ⟨(List.takeWhile_sublist _).length_le, by simp⟩
 ·simp
theorem zcn (s : ByteArray) (c : UInt8) (w : World) (hm : zj w) (hs : s.size < 4294967281) :
  Calls Tryz.prog 119 #[.string s, .string ⟨#[c]⟩] w fun e w' =>
   e = .returned (.tuple #[.string ⟨(V.cut1 c s.data.toList).1.toArray⟩, .string ⟨(V.cut1 c s.data.toList).2.1.toArray⟩, .bool (V.cut1 c s.data.toList).2.2]) /\ Below w.heap.size w w' := by
 obtain ⟨m, hm⟩ := hm
 refine (Tryz.strings_Cut s ⟨#[c]⟩ m w hs hm).mono ?_
 rintro e w' ⟨rfl, n, rfl⟩
 have h := V.cut_one s.data.toList c
 rw [show (ByteArray.mk #[c]).data.toList = [c] from rfl, h]
 exact ⟨rfl, below_drewN (zvb _ _) n⟩
def xe (l : List V.Bs) : Array Value := (l.map fun x => Value.string ⟨x.toArray⟩).toArray
theorem vv (l : List V.Bs) (j : Nat) (h : j < l.length) : (xe l)[j]? = some (.string ⟨l[j].toArray⟩) := by
 unfold xe
 simp [List.getElem?_eq_getElem h]
theorem ki (s : ByteArray) (c : UInt8) (w : World) (hm : zj w) (hs : s.size < 4294967281) :
  Calls Tryz.prog 91 #[.string s, .string ⟨#[c]⟩] w fun e w' =>
   e = .returned (.slice (some ⟨w.heap.size, 0, none⟩) (V.zl c s.data.toList).length (V.zl c s.data.toList).length) /\ w' = w.alloc (.cells (xe (V.zl c s.data.toList)) 9) := by
 obtain ⟨m, hm⟩ := hm
 have g0 : (Lib.splitB ⟨#[c]⟩ 0 (Lib.countB s ⟨#[c]⟩) s).map (·.data.toList) = V.zl c s.data.toList := by
  rw [Lib.splitB_data, ← V.zk0 c _ _ (zva _)]; rfl
 have g1 := Lib.splitB_all ⟨#[c]⟩ (zva 1) 0 _ s rfl
 have hl : (V.zl c s.data.toList).length = Lib.countB s ⟨#[c]⟩ + 1 := by rw [← g0, List.length_map, g1]
 have hcs : xe (V.zl c s.data.toList) = ((Lib.splitB ⟨#[c]⟩ 0 (Lib.countB s ⟨#[c]⟩) s).map Value.string).toArray := by
  unfold xe
  rw [← g0, List.map_map]
  congr 1
 refine (Tryz.strings_Split s ⟨#[c]⟩ m w hs hm (zva 1)).mono ?_
 rintro e w' ⟨rfl, rfl⟩
 rw [hl, hcs]
 exact ⟨rfl, rfl⟩
theorem Strs.split (w : World) (l : List V.Bs) (t : Nat) : Strs (w.alloc (.cells (xe l) t)) (.slice (some ⟨w.heap.size, 0, none⟩) l.length l.length) l := by
 refine ⟨_, _, rfl, fun j h => ⟨_, _, rfl, by simp, ?_⟩⟩
 rw [World.cell?_alloc_new, Nat.zero_add, vv l j h]
theorem jf (c : UInt8) : ∀ l : V.Bs, (V.zl c l).length ≤ l.length + 1
 | [] => by simp [V.zl]
 | b :: l => by
  have ih := jf c l
  unfold V.zl
  split
  ·simpa using ih
  ·split
   ·simp
   ·rename_i x r h; rw [h] at ih; simp at ih ⊢; omega
theorem jx (c : UInt8) : ∀ (l x : V.Bs), x ∈ V.zl c l -> x.length ≤ l.length
 | [], x, h => by simp [V.zl] at h; simp [h]
 | b :: l, x, h => by
  have ih := jx c l
  unfold V.zl at h
  exact zwe
def Tape (w : World) (b k : Nat) : Prop :=
 ∃ (a : Option Addr) (m cap p : Nat), w.cell? ⟨b, 0, none⟩ = some (.slice a m cap) /\ w.cell? ⟨b, 1, none⟩ = some (.int .i64 p) /\ p ≤ k /\ m ≤ maxLen /\
  w.frozen? ⟨b, 1, none⟩ = false /\
  ∀ j, j < m -> ∃ b' off x, a = some ⟨b', off, none⟩ /\ b' < w.heap.size /\ b' < b /\ w.cell? ⟨b', off + j, none⟩ = some (.int .i64 x) /\ (Lit.int .i64 x).wf = true
theorem Tape.lt {w : World} {b k : Nat} (h : Tape w b k) : b < w.heap.size := by
 obtain ⟨a, m, cap, p, c0, _⟩ := h
 exact World.block_lt_of_cell? _ _ c0
theorem Tape.grown {w w' : World} {b k : Nat} {row : Option Nat} (h : Tape w b k) (hg : w.grownBy w' row) (hb : row ≠ some b) (hr : ∀ b', row = some b' -> b < b') : Tape w' b k := by
 obtain ⟨a, m, cap, p, c0, c1, hp, hm, hf, hx⟩ := h
 have hlt := World.block_lt_of_cell? _ _ c0
 refine ⟨a, m, cap, p, hg.cell c0 (fun e => hb e.symm), hg.cell c1 (fun e => hb e.symm), hp, hm, ?_, fun j hj => ?_⟩
 ·rw [World.frozen?_of_block (w := w) (hg.block b hlt (fun e => hb e.symm))]; exact hf
 ·obtain ⟨b', off, x, rfl, h1, h2, h3, h4⟩ := hx j hj
  exact ⟨b', off, x, rfl, Nat.lt_of_lt_of_le h1 hg.size, h2, hg.cell h3 (fun e => by have := hr b' e.symm; omega), h4⟩
theorem Tape.below {w w' : World} {b k : Nat} (h : Tape w b k) (hb : Below w.heap.size w w') : Tape w' b k := by
 obtain ⟨a, m, cap, p, c0, c1, hp, hm, hf, hx⟩ := h
 have hlt := World.block_lt_of_cell? _ _ c0
 refine ⟨a, m, cap, p, (hb.cell (p := ⟨b, 0, none⟩) hlt).trans c0, (hb.cell (p := ⟨b, 1, none⟩) hlt).trans c1, hp, hm, (hb.frozen (p := ⟨b, 1, none⟩) hlt).trans hf, fun j hj => ?_⟩
 obtain ⟨b', off, x, rfl, h1, h2, h3, h4⟩ := hx j hj
 exact ⟨b', off, x, rfl, Nat.lt_of_lt_of_le h1 hb.size, h2, (hb.cell (p := ⟨b', off + j, none⟩) h1).trans h3, h4⟩
theorem Tape.le {w : World} {b k k' : Nat} (h : Tape w b k) (hk : k ≤ k') : Tape w b k' := by
 obtain ⟨a, m, cap, p, c0, c1, hp, rest⟩ := h
 exact ⟨a, m, cap, p, c0, c1, Nat.le_trans hp hk, rest⟩
theorem zn9 (w : World) (n : Nat) (row : Option Nat) : w.grownBy (w.drewN n) row :=
 have h := below_drewN (zvb w.heap.size w) n
 ⟨h.os, h.tape, h.output, h.size, fun k hk _ => h.block k hk⟩
theorem zq2 (w : World) (row : Option Nat) : w.grownBy w.drew row :=
 have h := (zvb w.heap.size w).drew
 ⟨h.os, h.tape, h.output, h.size, fun k hk _ => h.block k hk⟩
theorem qv (w : World) (b o : Nat) (u : Value) : w.grownBy (w.setCell ⟨b, o, none⟩ u) (some b) :=
 ⟨rfl, rfl, rfl, by simp [World.setCell], fun k _ hk => Below.heap_setCell _ _ _ _ (fun e => hk (by rw [e]))⟩
theorem zm {w w' : World} (h : Below w.heap.size w w') (row : Option Nat) : w.grownBy w' row := ⟨h.os, h.tape, h.output, h.size, fun k hk _ => h.block k hk⟩
theorem qj {w w' : World} {b B : Nat} (h : w.grownBy w' (some b)) (hb : B ≤ b) (hB : B ≤ w.heap.size) : Below B w w' :=
 ⟨h.os, h.tape, h.output, h.size, fun k hk => h.block k (by omega) (fun e => by cases e; omega)⟩
theorem Tape.step {w : World} {b k : Nat} {a : Option Addr} {m cap p : Nat} {u : Nat} (c0 : w.cell? ⟨b, 0, none⟩ = some (.slice a m cap)) (c1 : w.cell? ⟨b, 1, none⟩ = some (.int .i64 p)) (hp : p ≤ k) (hm : m ≤ maxLen) (hf : w.frozen? ⟨b, 1, none⟩ = false)
  (hx : ∀ j, j < m -> ∃ b' off x, a = some ⟨b', off, none⟩ /\ b' < w.heap.size /\ b' < b /\ w.cell? ⟨b', off + j, none⟩ = some (.int .i64 x) /\ (Lit.int .i64 x).wf = true) (hu : u = p + 1) :
  Tape (w.setCell ⟨b, 1, none⟩ (.int .i64 (u : Int))) b (k + 1) := by
 subst hu
 have e : ∀ (b' o : Nat), b' ≠ b -> (w.setCell ⟨b, 1, none⟩ (.int .i64 ((p + 1 : Nat) : Int))).cell? ⟨b', o, none⟩ = w.cell? ⟨b', o, none⟩ := fun b' o g0 =>
  World.cell?_setCell_other _ _ _ _ (by intro e; injection e with e; exact g0 e.symm)
 refine ⟨a, m, cap, p + 1, ?_, ?_, by omega, hm, ?_, fun j hj => ?_⟩
 ·rw [World.cell?_setCell_other _ _ _ _ (by intro e; injection e with _ e; exact absurd e (by decide))]; exact c0
 ·rw [World.cell?_setCell_same _ _ _ c1]
 ·simp only [World.frozen?_setCell]; exact hf
 ·obtain ⟨b', off, x, rfl, h1, h2, h3, h4⟩ := hx j hj
  exact ⟨b', off, x, rfl, by simpa [World.setCell] using h1, h2, by rw [e _ _ (Nat.ne_of_lt h2)]; exact h3, h4⟩
def zo8 (b k : Nat) (n : Int) (w : World) (e : Ending) (w' : World) : Prop :=
 ∃ r : Nat, (r : Int) < n /\ e = .returned (.int .i64 r) /\ Tape w' b (k + 1) /\ w.grownBy w' (some b)
theorem zic (x n : Int) (h : 1 ≤ n) : -n < x.tmod n /\ x.tmod n < n /\ 0 ≤ x.tmod n + n /\ 0 ≤ (x.tmod n + n) % n /\ (x.tmod n + n) % n < n := by
 have h1 := Int.lt_tmod_of_pos x (show (0 : Int) < n by omega)
 have h2 := Int.tmod_lt_of_pos x (show (0 : Int) < n by omega)
 exact ⟨by omega, h2, by omega, Int.emod_nonneg _ (by omega), Int.emod_lt_of_pos _ (by omega)⟩
theorem zpc {w W : World} {b k : Nat} {n v : Int} {a : Option Addr} {m cap p : Nat} (hW : ∃ i, W = w.drewN i) (c0 : w.cell? ⟨b, 0, none⟩ = some (.slice a m cap)) (c1 : w.cell? ⟨b, 1, none⟩ = some (.int .i64 p)) (hp : p ≤ k) (hm : m ≤ maxLen) (hf : w.frozen? ⟨b, 1, none⟩ = false)
  (hx : ∀ j, j < m -> ∃ b' off x, a = some ⟨b', off, none⟩ /\ b' < w.heap.size /\ b' < b /\ w.cell? ⟨b', off + j, none⟩ = some (.int .i64 x) /\ (Lit.int .i64 x).wf = true) (h0 : 0 ≤ v) (hv : v < n) :
  zo8 b k n w (.returned (.int .i64 v)) (W.setCell ⟨b, 1, none⟩ (.int .i64 ((p : Int) + 1))) := by
 obtain ⟨i, rfl⟩ := hW
 have hg : w.grownBy (w.drewN i) none := zn9 w i none
 have hlt := World.block_lt_of_cell? _ _ c0
 refine ⟨v.toNat, by omega, by rw [Int.toNat_of_nonneg h0], ?_, World.grownBy.trans (World.grownBy.but hg _) (qv _ _ _ _)⟩
 refine Tape.step (w := w.drewN i) (hg.cell c0 (by simp)) (hg.cell c1 (by simp)) hp hm ?_ (fun l hl => ?_) rfl
 ·rw [World.frozen?_of_block (w := w) (hg.block b hlt (by simp))]; exact hf
 ·obtain ⟨b', off, x, e, h1, h2, h3, h4⟩ := hx l hl
  exact ⟨b', off, x, e, Nat.lt_of_lt_of_le h1 hg.size, h2, hg.cell h3 (by simp), h4⟩
theorem jq (b k : Nat) (n : Int) (w : World) (h : Tape w b k) (hk : k ≤ 1000000000) (h1 : 1 ≤ n) (h2 : n ≤ 1000000000) :
  Calls Tryz.prog 25 #[.pointer (some ⟨b, 0, none⟩), .int .i64 n] w (zo8 b k n w) := by
 obtain ⟨a, m, cap, p, c0, c1, hp, hm, hf, hx⟩ := h
 have HX := zu8 hx
 have hz := World.block_lt_of_cell? _ _ c0
 unfold maxLen at hm
 clear hx
 by_cases hlt : p < m
 ·obtain ⟨b', off, x, rfl, g2, g3, hc, g0⟩ := HX.out p hlt
  have g1 : -9223372036854775808 ≤ x /\ x ≤ 9223372036854775807 := by simpa [Lit.wf, IntKind.min, IntKind.max, IntKind.signed, IntKind.bits] using g0
  obtain ⟨g4, g5⟩ := g1
  obtain ⟨t1, t2, t3, t4, t5⟩ := zic x n h1
  clear g0
  go_enter Tryz.func25, Tryz.ntmps25
  go_wp2
  go_quiet (fail)
  go_wp2
  go_quiet (fail)
  go_wp2
  go_ret
  exact zpc ⟨_, rfl⟩ c0 c1 hp hm hf HX.out t4 t5
 ·obtain ⟨t1, t2, t3, t4, t5⟩ := zic ((p : Int) * 7 + 3) n h1
  have t6 : 0 ≤ ((p : Int) * 7 + 3) % n := Int.emod_nonneg _ (by omega)
  have t7 : ((p : Int) * 7 + 3) % n < n := Int.emod_lt_of_pos _ (by omega)
  go_enter Tryz.func25, Tryz.ntmps25
  go_wp2
  go_quiet (fail)
  go_wp2
  go_ret
  exact zpc ⟨_, rfl⟩ c0 c1 hp hm hf HX.out (Int.emod_nonneg _ (by omega)) (Int.emod_lt_of_pos _ (by omega))
open Go.RowKit
theorem qp {P : Program} {fn : Func} {p : Tmp} {ty : TypeId} (h : fn.results = #[.cell p ty]) {tmps : Array Value} {w : World} {a : Addr} {v : Value}
  (hp : tmps.getD p undef = .pointer (some a)) (hl : (loadVar ty a).run P w = .ok v w) : (results fn tmps).run P w = .ok v w := by
 have g0 : tmps[p]?.getD undef = .pointer (some a) := by simpa using hp
 simp [results, h, g0, asAddr, hl]
theorem zz (w : World) (g : Nat) (cs : Array Value) : w.grownBy (w.setRow g cs) (some g) :=
 ⟨rfl, rfl, rfl, by simp, fun i _ hi => setRow_other w g i cs (fun e => hi (by rw [e]))⟩
theorem kj {w : World} {g : Nat} {cs : Array Value} {t : TypeId} {fr : Nat × Nat} (o : Nat) (v : Value) (hg : w.heap[g]? = some (.cells cs t fr)) : (w.setCell ⟨g, o, none⟩ v).heap[g]? = some (.cells (cs.setIfInBounds o v) t fr) := by
 have hlt := (Array.getElem?_eq_some_iff.1 hg).1
 have hv := (Array.getElem?_eq_some_iff.1 hg).2
 unfold World.setCell
 rw [Array.getElem?_eq_getElem (by simpa using hlt), Array.getElem_modify]
 simp [hv]
theorem qw {w : World} {g o : Nat} {cs : Array Value} {t : TypeId} (hg : w.heap[g]? = some (.cells cs t (0, 0))) : w.frozen? ⟨g, o, none⟩ = false := by
 simp [World.frozen?, hg]
theorem zx2 {P : Prop} (h : P := by
 have hs : i.size = 1 := by simpa [hq] using hi
 simp only [Nat.add_zero] at this
 simp [storeVar, sizeOf, typeInfo, hq, hcs, hs, this]
 rfl) : P := h
theorem zsi {P : Program} {w : World} {b o : Nat} {ty : TypeId} {v u : Value} (hc : w.cell? ⟨b, o, none⟩ = some u) (hf : w.frozen? ⟨b, o, none⟩ = false) (hi : (P.info? ty).map (·.size) = some 1) (h1 : v.oneCell' = true) :
  (storeVar ty ⟨b, o, none⟩ v).run P w = .ok () (w.setCell ⟨b, o, none⟩ v) := by
 have := run_storeCells_cells (P := P) b o [v] 0 w (fun j hj => by obtain rfl : j = 0 := by simpa using hj
                                                                   simp [hc]) (fun j hj => by obtain rfl : j = 0 := by simpa using hj
                                                                                              simp [hf]) (fun x hx => by simp at hx; subst hx; exact h1)
 have hcs : v.cells = #[v] := by cases v <;> first | rfl | cases h1
 cases hq : P.info? ty with
 | none => simp [hq] at hi
 | some i =>
  exact zx2
theorem zro {ops : Array Oper} {rest : List Oper} {o : Oper} {a : Act} {w : World} {Q : Exit -> Act -> World -> Prop} (g0 : o.guard = none) (ty : TypeId) (x y : Operand) (ho : o.op = .store ty x y)
  (b off : Nat) (hx : a.eval x = .pointer (some ⟨b, off, none⟩)) (v : Value) (hy : a.eval y = v) (u : Value) (hc : w.cell? ⟨b, off, none⟩ = some u) (hf : w.frozen? ⟨b, off, none⟩ = false) (hi : (Tryz.prog.info? ty).map (·.size) = some 1) (h1 : v.oneCell' = true)
  (h : wpList Tryz.prog ops Q rest (a.put o.dst undef) (w.setCell ⟨b, off, none⟩ v)) : wpList Tryz.prog ops Q (o :: rest) a w :=
 wpList_plain g0 fun K hK => by
  unfold Oper.wp execOp
  simp only [ho, hx, hy, Instr.storeAt, Instr.sureAddr, Sem.run_bind, Sem.run_pure, Result.andThen_ok, zsi hc hf hi h1]
  exact hK _ _ h
theorem ze6 (l : V.Bs) (c : UInt8) : (0 ≤ Lib.indexByte l c) ↔ c ∈ l := decide_eq_decide.1 (V.vp l c)
theorem zcd {s : V.Bs} (h : s.length < 1 ∨ 200 < s.length) : V.jo s = false := by
 unfold V.jo
 rcases h with h | h
 ·have : decide (1 ≤ s.length) = false := decide_eq_false (by omega)
  rw [this]; rfl
 ·have : decide (s.length ≤ 200) = false := decide_eq_false (by omega)
  rw [this]; simp
theorem zk6 {s : V.Bs} (h : (0 : UInt8) ∈ s) : V.jo s = false := by
 unfold V.jo; simp [h]
theorem zlh {s : V.Bs} (h1 : 1 ≤ s.length) (h2 : s.length ≤ 200) (h3 : (0 : UInt8) ∉ s) : V.jo s = V.ud s := by
 unfold V.jo; simp [h1, h2, h3]
theorem zws {P : Prop} (h : P := by
 have HE := zu8 e
 clear HD e
 go_wp2
 go_ret
 refine ⟨ze ?_, HB1.out⟩
 rw [HP.out, if_pos (by trivial), HC.out, HE.out]
 cases more <;> rfl) : P := h
theorem zx9 {P : Prop} (h : P := by
 go_enter Tryz.func101, Tryz.ntmps101
 go_wp2
 go_ret
 exact ⟨ze HR.out.symm, zvb _ _⟩) : P := h
theorem zpa (s : ByteArray) (w : World) (hm : zj w) (hs : s.size ≤ maxLen) :
  Calls Tryz.prog 101 #[.string s] w fun e w' => e = .returned (.bool (V.jo s.data.toList)) /\ Below w.heap.size w w' := by
 have HM := zu8 hm
 unfold maxLen at hs
 clear hm
 by_cases h1 : s.size < 1
 ·have HR := zu8 (zcd (s := s.data.toList) (.inl (by rw [zh]; exact h1)))
  exact zx9
 ·by_cases h2 : 200 < s.size
  ·have HR := zu8 (zcd (s := s.data.toList) (.inr (by rw [zh]; exact h2)))
   exact zx9
  ·have g0 : 1 ≤ s.size := by omega
   have g1 : s.size ≤ 200 := by omega
   clear h1 h2
   by_cases hz : (0 : UInt8) ∈ s.data.toList
   ·have HR := zu8 (zk6 hz)
    have HI : 0 ≤ Lib.indexByte s.data.toList 0 := (ze6 s.data.toList 0).2 hz
    clear hz
    go_enter Tryz.func101, Tryz.ntmps101
    go_wp2_with fail
    refine (Tryz.strings_IndexByte s 0 _).mono ?_
    rintro e w' ⟨rfl, rfl⟩
    rw [show ((0 : Int).toNat.toUInt8) = (0 : UInt8) from rfl]
    generalize Lib.indexByte s.data.toList 0 = ib at *
    go_wp2
    go_ret
    exact ⟨ze HR.out.symm, zvb _ _⟩
   ·have HR := zu8 (zlh (s := s.data.toList) (by rw [zh]; exact g0) (by rw [zh]; exact g1) hz)
    have HI : ¬ 0 ≤ Lib.indexByte s.data.toList 0 := fun g => hz ((ze6 s.data.toList 0).1 g)
    clear hz
    go_enter Tryz.func101, Tryz.ntmps101
    go_wp2_with fail
    refine (Tryz.strings_IndexByte s 0 _).mono ?_
    rintro e w' ⟨rfl, rfl⟩
    rw [show ((0 : Int).toNat.toUInt8) = (0 : UInt8) from rfl]
    generalize Lib.indexByte s.data.toList 0 = ib at *
    go_wp2
    go_loopw [0, 3] (fun sv mo wr => ∃ (x : ByteArray) (more : Bool), sv = .string x /\ mo = .bool more /\ x.size ≤ s.size /\ V.jo s.data.toList = (if more then V.ud x.data.toList else true) /\ Below w'.heap.size w' wr) (fun sv mo _ => (match sv with | .string x => x.size | _ => 0) + (match mo with | .bool true => 1 | _ => 0))
    case atStart => exact ⟨s, true, rfl, rfl, zva _, HR.out, zvb _ _⟩
    case round =>
     obtain ⟨x, more, rfl, rfl, hx, hp, hb⟩ := hrel
     have HB := zu8 hb
     have HP := zu8 hp
     clear hb hp
     rcases more with _ | _
     ·go_wp2
      go_ret
      exact ⟨ze HP.out.symm, HB.out⟩
     ·have g2 := yg 47 x.data.toList
      have HC := zu8 (V.zu2 x.data.toList)
      have HD := zu8 (V.zfo (V.cut1 47 x.data.toList).1)
      have HS : Hid ((V.cut1 47 x.data.toList).2.2 = true -> (V.cut1 47 x.data.toList).2.1.length < x.size) := zu8 (fun h => by
        have := congrArg List.length (V.zl7 47 x.data.toList h)
        rw [zh] at this
        simp at this; omega)
      rw [zh] at g2
      go_wp2_with fail
      refine (zcn x 47 _ (HM.out.below HB.out) (by omega)).mono ?_
      rintro e w1 ⟨rfl, hb1⟩
      have HB1 := zu9 HB hb1
      clear hb1
      generalize (V.cut1 47 x.data.toList).1 = p at *
      generalize (V.cut1 47 x.data.toList).2.1 = q at *
      generalize (V.cut1 47 x.data.toList).2.2 = more at *
      rcases HD.out with ⟨rfl, e⟩ | ⟨rfl, e⟩ | ⟨rfl, e⟩ | ⟨e1, e2, e3, e⟩
      ·exact zws
      ·exact zws
      ·exact zws
      ·have HE := zu8 e
       clear HD e
       have HT : Hid (V.jo s.data.toList = if more then V.ud q else true) := zu8 (by
         rw [HP.out, if_pos (by trivial), HC.out, HE.out]; cases more <;> rfl)
       clear HC HP
       go_wp2
       go_roundw
       case rel => exact ⟨⟨q.toArray⟩, more, rfl, rfl, by show q.toArray.size ≤ _; simp; omega, by rw [za5]; exact HT.out, HB1.out⟩
       case measure =>
        have hq : (⟨q.toArray⟩ : ByteArray).size = q.length := by show q.toArray.size = _; simp
        have := HS.out
        rcases more with _ | _
        ·simp [hq]; omega
        ·have := this rfl
         simp [hq]; omega
open Go.RowKit
variable {F : Fence} {n : Nat} {P : Program}
def recd (fn : FuncId) (t : Array Value) (ps : Array Tmp) (assign body : Code) (B : Nat) (st : LoopState) (pe : Option Code) : Loop :=
 { state := st, pending := pe, fn := fn, tmps := t, params := ps, assign := assign, body := body, defers := B }
structure Booked (B : Nat) (r : Loop) (W : World) : Prop where
 at1 : W.heap[B + 1]? = some (.loop r)
 at0 : W.heap[B]? = some (.deferred (some []))
theorem Booked.fresh (w : World) (r : Loop) : Booked w.heap.size r ((w.alloc (.deferred (some []))).alloc (.loop r)) where
 at1 := by have := World.alloc_heap_new (w.alloc (.deferred (some []))) (.loop r); simpa using this
 at0 := (Below.heap_alloc _ _ _ (by simp)).trans (World.alloc_heap_new w _)
theorem Booked.lt {B : Nat} {r : Loop} {W : World} (h : Booked B r W) : B + 1 < W.heap.size := (Array.getElem?_eq_some_iff.1 h.at1).1
theorem Booked.cell {B : Nat} {r : Loop} {W : World} (h : Booked B r W) {b : Nat} (hb : b < B) (v : Value) : Booked B r (W.setCell ⟨b, 0, none⟩ v) where
 at1 := (Below.heap_setCell W ⟨b, 0, none⟩ v _ (show B + 1 ≠ b by omega)).trans h.at1
 at0 := (Below.heap_setCell W ⟨b, 0, none⟩ v _ (show B ≠ b by omega)).trans h.at0
theorem Booked.keep {B : Nat} {r : Loop} {W W' : World} (h : Booked B r W) (k : KeepsOthers W W') : Booked B r W' := ⟨k.same _ _ h.at1 rfl, k.same _ _ h.at0 rfl⟩
theorem Booked.turn {B : Nat} {r : Loop} {W : World} (h : Booked B r W) (r' : Loop) : Booked B r' (W.putObj (B + 1) (.loop r')) :=
 ⟨World.putObj_heap_same h.lt, (World.putObj_heap_other (by omega)).trans h.at0⟩
theorem Booked.own {β : Type} {B : Nat} {r : Loop} {W : World} {I : β -> World -> Prop} {s : β} (h : Booked B r W) (hI : OwnFrom B I) (hi : I s W) (r' : Loop) : I s (W.putObj (B + 1) (.loop r')) :=
 hI.putObj _ hi (Nat.le_succ B) h.at1 rfl
theorem Booked.ends {B : Nat} {fn : FuncId} {t : Array Value} {ps : Array Tmp} {assign body : Code} {W : World} (h : Booked B (recd fn t ps assign body B .busy none) W) (jump : Option Code) :
  (Instr.endRound (B + 1) jump).run P W = .ok (.bool jump.isNone) (W.putObj (B + 1) (.loop (recd fn t ps assign body B (if jump.isNone then .ready else .done) jump))) :=
 run_endRound (P := P) jump h.at1
theorem Booked.over {B : Nat} {fn : FuncId} {t : Array Value} {ps : Array Tmp} {assign body : Code} {W : World} {st : LoopState} {pe : Option Code} (h : Booked B (recd fn t ps assign body B st pe) W) (g0 : st ≠ .busy) :
  ∃ r', (Instr.endLoop (B + 1)).run P W = .ok pe (W.putObj (B + 1) (.loop r')) :=
 ⟨_, run_endLoop (P := P) h.at1 g0⟩
def Hands {α : Type} (F : Fence) (n : Nat) (P : Program) (g : Nat) (lb : Array Value) (encs : α -> Array Value) (Kp : World -> World -> Prop) (S Sp : List α -> Prop) (Ok : α -> Prop) (w : World) (b : Nat) : Prop :=
 ∀ (l : Nat) (J Jx : List α -> World -> Prop) (W : World), Below w.heap.size w W -> (∀ s A v, J s A -> J s (A.setCell ⟨b, 0, none⟩ v)) ->
  (∀ pre x W1, J pre W1 -> Ok x -> YieldAt F (n - 1) P l (encs x) W1 fun e W' =>
    (e = .returned (.bool true) /\ J (pre ++ [x]) W' /\ Kp W1 W') ∨ (e = .returned (.bool false) /\ Jx (pre ++ [x]) W')) ->
  J [] W ->
  CallsIn F n P g (#[.func (.yield l) #[] #[]] ++ lb) W fun e W' => (∃ v, e = .returned v) /\ ((∃ xs, S xs /\ J xs W') ∨ (∃ pre, Sp pre /\ Jx pre W'))
structure Round {α : Type} (F : Fence) (n : Nat) (P : Program) (B b : Nat) (ps : Array Tmp) (t : Array Value) (assign body : Code) (encs : α -> Array Value) (Kp : World -> World -> Prop) (Ok : α -> Prop) (I : List α -> World -> Prop) (Ix : Code -> List α -> World -> Prop) (act : α -> Act) : Prop where
 own : OwnFrom B I
 ownx : ∀ c, OwnFrom B (Ix c)
 state : ∀ s A v, I s A -> I s (A.setCell ⟨b, 0, none⟩ v)
 assigned : ∀ (l : Nat) (x : α) (W : World) (K : Act -> World -> Prop), K (act x) W ->
  assign.wpIn (F.inRound l) (n - 1 - 1) P (Exit.then K (fun _ _ _ => False)) { tmps := (ps.zip (encs x)).foldl (fun t (p, v) => t.setIfInBounds p v) t, defers := [] } W
 run : ∀ (l : Nat) (pre : List α) (x : α) (W : World), I pre W -> Ok x -> body.wpIn (F.inRound l) (n - 1 - 1) P (ownPostK Kp I Ix (pre ++ [x]) W) (act x) W
theorem Round.yields {α : Type} {B b : Nat} {ps : Array Tmp} {t : Array Value} {assign body : Code} {encs : α -> Array Value} {Kp : World -> World -> Prop} {Ok : α -> Prop} {I : List α -> World -> Prop} {Ix : Code -> List α -> World -> Prop} {act : α -> Act}
  (h : Round F n P B b ps t assign body encs Kp Ok I Ix act) {fn : FuncId} (hfn : F.fn fn) (hps : ∀ x, (encs x).size = ps.size)
  (hKt : ∀ {A C D : World}, Kp A C -> Kp C D -> Kp A D) (hKb : ∀ (W : World) (l : Nat) (o o' : Obj), B ≤ l -> W.heap[l]? = some o -> o.isCells = false -> o.isWalk = false -> Kp W (W.putObj l o'))
  {pre : List α} {x : α} {W : World} (hi : I pre W) (hB : Booked B (recd fn t ps assign body B .ready none) W) (hx : Ok x) :
  YieldAt F (n - 1 - 1) P (B + 1) (encs x) W fun e W' =>
   (e = .returned (.bool true) /\ (I (pre ++ [x]) W' /\ Booked B (recd fn t ps assign body B .ready none) W') /\ Kp W W') ∨
   (e = .returned (.bool false) /\ ∃ c, Ix c (pre ++ [x]) W' /\ Booked B (recd fn t ps assign body B .done (some c)) W') := by
 have g0 := hB.turn (recd fn t ps assign body B .busy none)
 have g1 := hKb W (B + 1) _ (.loop (recd fn t ps assign body B .busy none)) (Nat.le_succ B) hB.at1 rfl rfl
 refine ⟨fn, _, assign, body, run_yield (P := P) (args := encs x) hB.at1 (hps x), roundIn_of_wpIn hfn (h.assigned _ x W _ ⟨_, run_beginRound hB.at1 rfl, ?_⟩)⟩
 refine wpIn_mono (h.run _ pre x _ (hB.own h.own hi _) hx) fun e a3 W3 hp => ?_
 have left : ∀ c, KeepsOthers (W.putObj (B + 1) (.loop (recd fn t ps assign body B .busy none))) W3 -> Ix c (pre ++ [x]) W3 ->
   ∃ c', Ix c' (pre ++ [x]) (W3.putObj (B + 1) (.loop (recd fn t ps assign body B .done (some c)))) /\ Booked B (recd fn t ps assign body B .done (some c')) (W3.putObj (B + 1) (.loop (recd fn t ps assign body B .done (some c)))) :=
  fun c k hx => ⟨c, (g0.keep k).own (h.ownx c) hx _, (g0.keep k).turn _⟩
 cases e with
 | normal => exact ⟨_, _, (g0.keep hp.1).ends none, .inl ⟨rfl, ⟨(g0.keep hp.1).own h.own hp.2.2 _, (g0.keep hp.1).turn _⟩, hKt (hKt g1 hp.2.1) (hKb _ _ _ _ (Nat.le_succ B) (g0.keep hp.1).at1 rfl rfl)⟩⟩
 | ret => exact ⟨_, _, (g0.keep hp.1).ends (some .ret), .inr ⟨rfl, left _ hp.1 hp.2⟩⟩
 | exit id => exact ⟨_, _, (g0.keep hp.1).ends (some (.exit id)), .inr ⟨rfl, left _ hp.1 hp.2⟩⟩
 | goto c => exact ⟨_, _, (g0.keep hp.1).ends (some (.goto c)), .inr ⟨rfl, left _ hp.1 hp.2⟩⟩
 | panic ch => exact hp.elim
 | outgrown => exact hp.elim
theorem zvo {P : Prop} (h : P := by
 refine (hseq (w.heap.size + 1) (fun pre W => I pre W /\ Booked w.heap.size (recd fn a.tmps ps assign body w.heap.size .ready none) W)
   (fun pre W => ∃ c, Ix c pre W /\ Booked w.heap.size (recd fn a.tmps ps assign body w.heap.size .done (some c)) W) _ hbel
   (fun s A v hs => ⟨hr.state s A v hs.1, hs.2.cell hb v⟩) (fun pre x W hj hx => hr.yields hfn hps hKt hKb hj.1 hj.2 hx) ⟨hI1, hbk⟩).mono ?_
 rintro e W2 ⟨⟨v, rfl⟩, hend⟩
 rcases hend with ⟨xs, hS, hi, hk⟩ | ⟨pre, hSp, c, hi, hk⟩
 ·obtain ⟨r', he⟩ := hk.over (P := P) (by simp)
  exact ⟨none, _, he, hdone _ xs _ (zva _) hS (hk.own hr.own hi _) (hk.turn _).at0⟩
 ·obtain ⟨r', he⟩ := hk.over (P := P) (by simp)
  exact ⟨some c, _, he, hstop _ c pre _ (zva _) hSp (hk.own (hr.ownx c) hi _) (hk.turn _).at0⟩) : P := h
theorem zbw {α : Type} {g : Operand} {ps : Array Tmp} {assign body : Code} {Q : Exit -> Act -> World -> Prop} {a : Act} {w : World}
  (g3 : F.round = none) (h1 : 1 ≤ n) {gf : Nat} {lb : Array Value} (hg : a.eval g = .func (.func gf) #[] lb) (g4 : F.fn gf) (eg : ∀ args w, (callFunc gf args).run P w = .ok (.enter gf args) w)
  {encs : α -> Array Value} {Kp : World -> World -> Prop} {S Sp : List α -> Prop} {Ok : α -> Prop} {b : Nat} (hb : b < w.heap.size) (hseq : Hands F (n - 1) P gf lb encs Kp S Sp Ok w b)
  (hKt : ∀ {A B C : World}, Kp A B -> Kp B C -> Kp A C) (hKb : ∀ (W : World) (l : Nat) (o o' : Obj), w.heap.size ≤ l -> W.heap[l]? = some o -> o.isCells = false -> o.isWalk = false -> Kp W (W.putObj l o')) (hps : ∀ x, (encs x).size = ps.size)
  {I : List α -> World -> Prop} {Ix : Code -> List α -> World -> Prop} {act : α -> Act} (hr : Round F n P w.heap.size b ps a.tmps assign body encs Kp Ok I Ix act) (h0 : I [] w)
  (hdone : ∀ (D : Nat) (xs : List α) (W : World), w.heap.size ≤ D -> S xs -> I xs W -> W.heap[D]? = some (.deferred (some [])) -> Q .normal { a with defers := { target := .collected D, args := #[] } :: a.defers } W)
  (hstop : ∀ (D : Nat) (c : Code) (pre : List α) (W : World), w.heap.size ≤ D -> Sp pre -> Ix c pre W -> W.heap[D]? = some (.deferred (some [])) -> c.wpIn F n P Q { a with defers := { target := .collected D, args := #[] } :: a.defers } W) :
  (Code.rangeFunc g ps assign body).wpIn F n P Q a w := by
 refine wpIn_rangeFunc fun fn hfn => ?_
 have hbk := Booked.fresh w (recd fn a.tmps ps assign body w.heap.size .ready none)
 have hbel : Below w.heap.size w ((w.alloc (.deferred (some []))).alloc (.loop (recd fn a.tmps ps assign body w.heap.size .ready none))) := ((zvb _ w).alloc (zva _) _).alloc (by simp) _
 have hI1 := hr.own.alloc (.loop (recd fn a.tmps ps assign body w.heap.size .ready none)) (hr.own.alloc (.deferred (some [])) h0)
 rw [g3]
 have g2 := run_enterLoop_outer (P := P) (w := w) fn a.tmps ps assign body
 obtain ⟨W1, g0⟩ : ∃ W1, W1 = (w.alloc (.deferred (some []))).alloc (.loop (recd fn a.tmps ps assign body w.heap.size .ready none)) := ⟨_, rfl⟩
 rw [← g0] at hbk hbel hI1
 refine ⟨w.heap.size + 1, [{ target := .collected w.heap.size, args := #[] }], W1, { target := .fn (.func gf) lb, args := #[.func (.yield (w.heap.size + 1)) #[] #[]] }, W1, gf,
   #[.func (.yield (w.heap.size + 1)) #[] #[]] ++ lb, W1, by rw [g0]; exact g2, ?called, ?led, ?entered, fun _ => h1, ?it⟩
 case called => simp only [resolve, hg]; simp [go_sem]
 case led => intro f' g1; simp [Target.leads] at g1; exact g1 ▸ g4
 case entered => simp [invoke, go_sem, eg]
 case it =>
  exact zvo
end Go.Proofs.YtbikeahmldobkaaGreatDoor
