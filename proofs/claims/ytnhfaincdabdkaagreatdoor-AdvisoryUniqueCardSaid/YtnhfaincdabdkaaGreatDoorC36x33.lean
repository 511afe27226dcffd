/-
  Lemmas for the law.
-/
import Derived.Test.YtnhfaincdabdkaaGreatDoorC36x21
import Derived.Test.YtnhfaincdabdkaaGreatDoorC36x19
import Derived.Test.YtnhfaincdabdkaaGreatDoorC36x02
import Derived.Test.YtnhfaincdabdkaaGreatDoorC36x15
import Derived.Test.YtnhfaincdabdkaaGreatDoorC36x17
import Derived.Test.YtnhfaincdabdkaaGreatDoorC36x20
import Derived.Test.YtnhfaincdabdkaaGreatDoorC36x18
import Derived.Lib.ItoaNum
import Derived.Sort.Grow
import Derived.Laws.Rows
import Derived.Deep.MidRow
set_option linter.all false
set_option maxRecDepth 100000
set_option maxHeartbeats 1600000
namespace Go.Proofs.YtnhfaincdabdkaaGreatDoor
open Go.RowKit
theorem zn5 {α : Type} {enc : α -> List Value} {k : Nat} {T : TypeId} {ops : Array Oper} {o : Oper} {a : Act} {w : World} {K : Act -> World -> Prop} {Q : Exit -> Act -> World -> Prop} {E : Prop} (hk : ∀ x, (enc x).length = k) (hk0 : 0 < k) (h1c : ∀ x, ∀ u ∈ enc x, u.oneCell' = true) {bytes : Nat} (hi : xh T k bytes) (hby : bytes ≤ 1000) (hgd : o.guard = none) (s x : Operand) (S : TypeId)
  (ho : o.op = .call { callee := .builtin .append, args := #[s, x], argTypes := #[S, S] }) (hu : Tryz.prog.underlying S = some (.slice T))
  (N : Nat) (v : Value) (l : List α) (hs : a.eval s = v) (hown : GRow T k enc w N v l) (b : Nat) (c : α) (hx : a.eval x = .slice (some ⟨b, 0, none⟩) 1 1) (hr : ∀ j u, (enc c)[j]? = some u -> w.cell? ⟨b, j, none⟩ = some u) (hl : l.length ≤ 900000) (hN : N ≤ w.heap.size)
  (h : ∀ v' w', GRow T k enc w' N v' (l ++ [c]) -> w.grownBy w' v.ownBlock -> (v'.ownBlock = v.ownBlock ∨ v'.ownBlock = some w.heap.size) -> K (a.put o.dst v') w') : if Region.wanted o (yielded ops a.tmps) = true then Oper.wp Tryz.prog o a w K Q else E := by
 rw [if_pos (by simp [Region.wanted, hgd])]
 obtain ⟨ie, z, hie, hz, h1, h2, h3⟩ := hi
 obtain ⟨v', w', hr', ho', hg, _, hob⟩ := run_append_own_at (P := Tryz.prog) w N S o.type T ie z k bytes hu hie hz h1 h2 h3 hk0 v l.length (l.flatMap enc) hown ⟨b, 0, none⟩ 1 1 (enc c) (by rw [hk]; omega) (fun j u hj => by
   rw [Addr.add_mid, Nat.zero_add]
   exact hr j u hj) (h1c c) (by unfold maxLen; omega) (by
     have : (l.length + 1) * bytes ≤ 1000000 * 1000 := Nat.mul_le_mul (by omega) hby
     omega) hN
 unfold Oper.wp execOp
 simp only [ho, resolve, invoke, builtin, Sem.run_bind, Sem.run_pure, Result.andThen_ok, List.map_toArray, List.map_cons, List.map_nil, hs, hx, hr']
 refine h v' w' ?_ hg hob
 unfold GRow
 rw [List.length_append, List.flatMap_append]
 simpa using ho'
structure Lsl where
 a : Option Addr
 n : Nat
 c : Nat
def Lsl.v (s : Lsl) : Value := .slice s.a s.n s.c
def lslE (s : Lsl) : List Value := [s.v]
theorem zjn (s : Lsl) : (lslE s).length = 1 := rfl
theorem zqa (s : Lsl) : ∀ u ∈ lslE s, u.oneCell' = true := by
 intro u hu
 simp [lslE] at hu
 subst hu
 rfl
theorem zkn : xh 61 1 24 := by
 have h : (match Tryz.prog.info? 61 with | some i => i.size == 1 && (i.bytes == 24 && (match i.zero with | some z => z.cells.size == 1 | none => false)) | none => false) = true := by kernel_rfl
 unfold xh
 cases hq : Tryz.prog.info? 61 with
 | none => rw [hq] at h; cases h
 | some i =>
  rw [hq] at h
  simp only [Bool.and_eq_true, beq_iff_eq] at h
  obtain ⟨h1, h2, h3⟩ := h
  cases hz : i.zero with
  | none => rw [hz] at h3; cases h3
  | some z =>
   rw [hz] at h3
   exact ⟨i, z, rfl, hz, h1, h2, by simpa using h3⟩
theorem Strs.grown {w w' : World} {v : Value} {l : List V.Bs} {row : Option Nat} (h : Strs w v l) (hg : w.grownBy w' row) (hs : l ≠ [] -> ∀ c, v.ownBlock = some c -> row ≠ some c) : Strs w' v l := by
 obtain ⟨a, cap, rfl, hx⟩ := h
 refine ⟨a, cap, rfl, fun j hj => ?_⟩
 obtain ⟨b, off, rfl, hlt, h0⟩ := hx j hj
 have hne : l ≠ [] := fun e => by rw [e] at hj; simp at hj
 have hb : row ≠ some b := hs hne b rfl
 exact ⟨b, off, rfl, Nat.lt_of_lt_of_le hlt hg.size, hg.cell h0 (fun e => hb e.symm)⟩
theorem zyf {P : Prop} (h : P := by
 obtain ⟨a, cap, rfl, hx⟩ := h
 obtain ⟨b, off, rfl, hlt, _⟩ := hx 0 (List.length_pos_iff.2 hl)
 simp [Value.ownBlock] at hc
 omega) : P := h
theorem Strs.lt {w : World} {v : Value} {l : List V.Bs} (h : Strs w v l) (hl : l ≠ []) {c : Nat} (hc : v.ownBlock = some c) : c < w.heap.size := by
 exact zyf
structure LRow (N : Nat) (w : World) (v : Value) (us : List Lsl) (ls : List (List V.Bs)) : Prop where
 row : GRow 61 1 lslE w N v us
 len : us.length = ls.length
 each : ∀ j (h : j < us.length) (h' : j < ls.length), Strs w us[j].v ls[j] /\ (ls[j] ≠ [] -> ∀ c, us[j].v.ownBlock = some c -> v.ownBlock ≠ some c)
theorem LRow.nil (N : Nat) (w : World) : LRow N w (.slice none 0 0) [] [] := ⟨GRow.nil _ _, rfl, fun j h => by simp at h⟩
theorem LRow.later {N : Nat} {w w' : World} {v : Value} {us : List Lsl} {ls : List (List V.Bs)} (h : LRow N w v us ls) (hb : Below w.heap.size w w') : LRow N w' v us ls :=
 ⟨GRow.below h.row hb, h.len, fun j hj hj' => ⟨vk (h.each j hj hj').1 hb, (h.each j hj hj').2⟩⟩
theorem zx1 {P : Prop} (h : P := by
 refine ⟨hq.grown hg hn, fun hy c hc => ?_⟩
 rcases ho with e | e
 ·rw [e]; exact hn hy c hc
 ·rw [e]
  intro g
  have := hq.lt hy hc
  cases g
  omega) : P := h
theorem zy3 {P : Prop} (h : P := by
 rw [List.getElem_append_left e, List.getElem_append_left e2]
 exact one _ _ (h.each j e e2).1 (h.each j e e2).2) : P := h
theorem LRow.add {N : Nat} {w w' : World} {v v' : Value} {us : List Lsl} {ls : List (List V.Bs)} {u : Lsl} {x : List V.Bs} (h : LRow N w v us ls) (hr : GRow 61 1 lslE w' N v' (us ++ [u])) (hg : w.grownBy w' v.ownBlock) (ho : v'.ownBlock = v.ownBlock ∨ v'.ownBlock = some w.heap.size)
  (hu : Strs w u.v x) (hs : x ≠ [] -> ∀ c, u.v.ownBlock = some c -> v.ownBlock ≠ some c) : LRow N w' v' (us ++ [u]) (ls ++ [x]) := by
 have one : ∀ (q : Value) (y : List V.Bs), Strs w q y -> (y ≠ [] -> ∀ c, q.ownBlock = some c -> v.ownBlock ≠ some c) -> Strs w' q y /\ (y ≠ [] -> ∀ c, q.ownBlock = some c -> v'.ownBlock ≠ some c) := fun q y hq hn => by
  exact zx1
 refine ⟨hr, by rw [List.length_append, List.length_append, h.len]; rfl, fun j hj hj' => ?_⟩
 by_cases e : j < us.length
 ·have e2 : j < ls.length := by rw [← h.len]; exact e
  exact zy3
 ·have ej : j = us.length := by rw [List.length_append, List.length_singleton] at hj; omega
  subst ej
  have e1 : (us ++ [u])[us.length] = u := by simp
  have e2 : (ls ++ [x])[us.length]'hj' = x := by simp [h.len]
  rw [e1, e2]
  exact one _ _ hu hs
theorem LRow.one {N : Nat} {w : World} {u : Lsl} {x : List V.Bs} (hN : N ≤ w.heap.size) (hu : Strs w u.v x) (h0 : x ≠ []) : LRow N (w.alloc (.cells #[u.v] 61)) (.slice (some ⟨w.heap.size, 0, none⟩) 1 1) [u] [x] := by
 have hb : Below w.heap.size w (w.alloc (.cells #[u.v] 61)) := (zu1 _ w).alloc (zu0 _) _
 refine ⟨⟨rfl, .inr ⟨w.heap.size, 1, #[u.v], rfl, hN, ?_, zu0 _, by unfold maxLen; omega, rfl, rfl⟩⟩, rfl, fun j hj hj' => ?_⟩
 ·rw [heap_alloc, if_pos rfl]
 ·obtain rfl : j = 0 := by simpa using hj
  refine ⟨vk hu hb, fun _ c hc => ?_⟩
  have := hu.lt h0 hc
  intro e
  simp [Value.ownBlock] at e
  omega
theorem LRow.lines {N : Nat} {w : World} {v : Value} {us : List Lsl} {ls : List (List V.Bs)} (h : LRow N w v us ls) : Lines w v ls := by
 obtain ⟨a, cap, rfl⟩ := GRow.slice h.row
 refine ⟨a, cap, by rw [h.len], fun j hj => ?_⟩
 have hj' : j < us.length := by rw [h.len]; exact hj
 obtain ⟨g, cap2, e, hN, hg, hc⟩ := GRow.at zjn h.row j hj'
 cases e
 exact ⟨g, 0, us[j].v, rfl, hg, by simpa using hc 0 us[j].v rfl, (h.each j hj' hj).1⟩
theorem LRow.slice {N : Nat} {w : World} {v : Value} {us : List Lsl} {ls : List (List V.Bs)} (h : LRow N w v us ls) : ∃ a cap, v = .slice a ls.length cap := by
 rw [← h.len]; exact GRow.slice h.row
theorem zo2 (w : World) (l : List V.Bs) : Strs (w.alloc (.cells (l.map fun x => Value.string ⟨x.toArray⟩).toArray 9)) (.slice (some ⟨w.heap.size, 0, none⟩) l.length l.length) l :=
 ⟨_, _, rfl, fun j hj => ⟨w.heap.size, 0, rfl, by simp, by rw [Nat.zero_add, World.cell?_alloc_new]; simp [hj]⟩⟩
theorem zre (w : World) (k : Nat) (os : Array Obj) : Below w.heap.size w (Sort.grow (w.drewN k) os) :=
 ⟨rfl, rfl, rfl, by simp, fun q hq => by rw [Sort.heap_grow_old _ _ (by simpa using hq)]; rfl⟩
theorem ziu : ∀ (k u : Nat), u < 10 ^ k -> 0 < k -> Lib.nDigits u ≤ k
 | 0, _, _, h => absurd h (by omega)
 | 1, u, h, _ => by rw [Lib.nDigits_small (by simpa using h)]; exact zu0 _
 | k + 2, u, h, _ => by
  rw [Lib.nDigits]
  split
  ·omega
  ·have := ziu (k + 1) (u / 10) (by rw [Nat.pow_succ] at h; omega) (by omega)
   omega
theorem zm3 {n : Nat} (h : n ≤ 2199023255552) : (Lib.decDigits n).length ≤ 13 := by
 rw [Lib.decDigits_length]
 exact ziu 13 n (by omega) (by omega)
theorem zli (n : Nat) (w : World) (hn : n ≤ 2199023255552) (htab : Lib.TabIs Tryz.prog w "internal/strconv.uint64pow10" .u64 Lib.pow10Tab) :
  Calls Tryz.prog 58 #[.int .i64 n] w fun e w' => e = .returned (.string ⟨(Lib.decDigits n).toArray⟩) /\ Below w.heap.size w w' := by
 have HT := zuy htab
 clear htab
 go_enter Tryz.func58, Tryz.ntmps58
 go_wp2_with fail
 refine (Tryz.strconv_FormatInt_10 n (by omega) (by omega) w HT.out).mono ?_
 rintro e w' ⟨rfl, k, os, rfl⟩
 have HI : Hid (Lib.itoa n = Lib.decDigits n) := zuy (by unfold Lib.itoa; rw [if_neg (by omega)]; simp)
 rw [HI.out]
 have HB := zuy (zre w k os)
 generalize Sort.grow (w.drewN k) os = w1 at *
 go_wp2
 go_ret
 exact ⟨rfl, HB.out⟩
open Go.RowKit
theorem kl {P : Program} {fn : Func} {p q : Tmp} {ty : TypeId} (h : fn.results = #[.cell p ty, .tmp q]) {tmps : Array Value} {w : World} {a : Addr} {v u : Value}
  (hp : tmps.getD p undef = .pointer (some a)) (hq : tmps.getD q undef = u) (hl : (loadVar ty a).run P w = .ok v w) : (results fn tmps).run P w = .ok (.tuple #[v, u]) w := by
 have hp' : tmps[p]?.getD undef = .pointer (some a) := by simpa using hp
 have hq' : tmps[q]?.getD undef = u := by simpa using hq
 simp [results, h, hp', hq', asAddr, hl]
theorem zhj {P : Program} {fn : Func} {p : Tmp} {ty : TypeId} (h : fn.results = #[.cell p ty]) {tmps : Array Value} {w : World} {a : Addr} {v : Value}
  (hp : tmps.getD p undef = .pointer (some a)) (hl : (loadVar ty a).run P w = .ok v w) : (results fn tmps).run P w = .ok v w := by
 have hp' : tmps[p]?.getD undef = .pointer (some a) := by simpa using hp
 simp [results, h, hp', asAddr, hl]
theorem qd (w : World) (g : Nat) (cs : Array Value) : w.grownBy (w.setRow g cs) (some g) :=
 ⟨rfl, rfl, rfl, by simp, fun i _ hi => setRow_other w g i cs (fun e => hi (by rw [e]))⟩
theorem znl {w : World} {g : Nat} {cs : Array Value} {t : TypeId} {fr : Nat × Nat} (o : Nat) (v : Value) (hg : w.heap[g]? = some (.cells cs t fr)) : (w.setCell ⟨g, o, none⟩ v).heap[g]? = some (.cells (cs.setIfInBounds o v) t fr) := by
 have hlt := (Array.getElem?_eq_some_iff.1 hg).1
 have hv := (Array.getElem?_eq_some_iff.1 hg).2
 unfold World.setCell
 rw [Array.getElem?_eq_getElem (by simpa using hlt), Array.getElem_modify]
 simp [hv]
theorem ziw {w : World} {g o : Nat} {cs : Array Value} {t : TypeId} (hg : w.heap[g]? = some (.cells cs t (0, 0))) : w.frozen? ⟨g, o, none⟩ = false := by
 simp [World.frozen?, hg]
theorem zsg {P : Program} {w : World} {b o : Nat} {ty : TypeId} {v u : Value} (hc : w.cell? ⟨b, o, none⟩ = some u) (hf : w.frozen? ⟨b, o, none⟩ = false) (hi : (P.info? ty).map (·.size) = some 1) (h1 : v.oneCell' = true) :
  (storeVar ty ⟨b, o, none⟩ v).run P w = .ok () (w.setCell ⟨b, o, none⟩ v) := by
 have := run_storeCells_cells (P := P) b o [v] 0 w (fun j hj => by obtain rfl : j = 0 := by simpa using hj
                                                                   simp [hc]) (fun j hj => by obtain rfl : j = 0 := by simpa using hj
                                                                                              simp [hf]) (fun x hx => by simp at hx; subst hx; exact h1)
 have hcs : v.cells = #[v] := by cases v <;> first | rfl | cases h1
 cases hq : P.info? ty with
 | none => simp [hq] at hi
 | some i =>
  exact zyc
theorem wl_set {ops : Array Oper} {rest : List Oper} {o : Oper} {a : Act} {w : World} {Q : Exit -> Act -> World -> Prop} (hgd : o.guard = none) (ty : TypeId) (x y : Operand) (ho : o.op = .store ty x y)
  (b off : Nat) (hx : a.eval x = .pointer (some ⟨b, off, none⟩)) (v : Value) (hy : a.eval y = v) (u : Value) (hc : w.cell? ⟨b, off, none⟩ = some u) (hf : w.frozen? ⟨b, off, none⟩ = false) (hi : (Tryz.prog.info? ty).map (·.size) = some 1) (h1 : v.oneCell' = true)
  (h : wpList Tryz.prog ops Q rest (a.put o.dst undef) (w.setCell ⟨b, off, none⟩ v)) : wpList Tryz.prog ops Q (o :: rest) a w :=
 wpList_plain hgd fun K hK => by
  unfold Oper.wp execOp
  simp only [ho, hx, hy, Instr.storeAt, Instr.sureAddr, Sem.run_bind, Sem.run_pure, Result.andThen_ok, zsg hc hf hi h1]
  exact hK _ _ h
namespace V
end V
theorem zo1 {P : Program} {w w' : World} {name : String} {k : IntKind} {zs : List Int} (h : Lib.TabIs P w name k zs) (hb : Below w.heap.size w w') : Lib.TabIs P w' name k zs := by
 unfold Lib.TabIs World.var? at *
 cases hg : P.globalNamed name with
 | none => rw [hg] at h; cases h
 | some g =>
  rw [hg] at h
  simp only [Option.bind_some] at h ⊢
  cases hq : w.heap[g]? with
  | none => rw [hq] at h; cases h
  | some o => rw [hb.block g (Array.getElem?_eq_some_iff.1 hq).1]; exact h
def zer (w : World) : Prop := Lib.TabIs Tryz.prog w "internal/strconv.uint64pow10" .u64 Lib.pow10Tab
theorem zer.below {w w' : World} (h : zer w) (hb : Below w.heap.size w w') : zer w' := zo1 h hb
theorem zb {W W' : World} {b o : Nat} {v : Value} (hb : Below W.heap.size W W') (h : W.cell? ⟨b, o, none⟩ = some v) : W'.cell? ⟨b, o, none⟩ = some v :=
 (hb.cell (p := ⟨b, o, none⟩) (World.block_lt_of_cell? _ _ h)).trans h
def zcd (l : List V.Bs) : Array Value := (l.map fun x => Value.string ⟨x.toArray⟩).toArray
theorem infoS : ∃ i, Tryz.prog.info? 9 = some i /\ i.zero = some (.string ⟨#[]⟩) /\ i.size = 1 /\ i.bytes = 16 := by
 have h : (Tryz.prog.info? 9).map (fun i => (i.zero, i.size, i.bytes)) = some (some (.string ⟨#[]⟩), 1, 16) := by kernel_rfl
 exact zyq
theorem zft {ops : Array Oper} {o : Oper} {a : Act} {w : World} {K : Act -> World -> Prop} {Q : Exit -> Act -> World -> Prop} {E : Prop} (hgd : o.guard = none) (e1 : Operand) (ho : o.op = .buildSlice 64 1 #[(0, e1)])
  (u : Lsl) (h1 : a.eval e1 = u.v)
  (h : K (a.put o.dst (.slice (some ⟨w.heap.size, 0, none⟩) 1 1)) (w.alloc (.cells #[u.v] 61))) : if Region.wanted o (yielded ops a.tmps) = true then Oper.wp Tryz.prog o a w K Q else E := by
 rw [if_pos (by simp [Region.wanted, hgd])]
 obtain ⟨ie, z, hie, hz, q1, q2, q3⟩ := zkn
 refine wp_buildSlice _ 61 1 _ ho #[u.v] ie z Tryz.underlying64 hie hz (by rw [q1]; decide) (by rw [q1]; decide) ?_ h
 have := Great.fill_whole (s := 1) (by decide) [u.v] ((Array.range (1 * ie.size)).map (z.cells[· % z.cells.size]!)) (fun v hv => by
   rw [List.mem_singleton.1 hv]; rfl) (by rw [q1]; simp)
 rw [q1] at this ⊢
 simp only [h1, List.map_toArray, List.map_cons, List.map_nil]
 exact this
theorem zur (w : World) (u : Lsl) : ∀ j v, (lslE u)[j]? = some v -> (w.alloc (.cells #[u.v] 61)).cell? ⟨w.heap.size, j, none⟩ = some v := fun j v h => by
 rw [World.cell?_alloc_new]
 simpa [lslE] using h
theorem zha {n : Int} (h0 : 0 ≤ n) (h1 : n ≤ 2199023255552) (w : World) (hp : zer w) :
  Calls Tryz.prog 58 #[.int .i64 n] w fun e w' => e = .returned (.string ⟨(Lib.decDigits n.toNat).toArray⟩) /\ Below w.heap.size w w' := by
 have := zli n.toNat w (by omega) hp
 rwa [Int.toNat_of_nonneg h0] at this
structure EncS (N : Nat) (W0 : World) (v : Value) (ls : List (List V.Bs)) (w : World) : Prop where
 row : ∃ us, LRow N w v us ls
 below : Below N W0 w
 size : N ≤ w.heap.size
open Go.RowKit
def affV (a : V.Aff) (u : Value) : Value := .agg #[.int .i64 a.sch, .string ⟨a.name.toArray⟩, .int .i64 a.rs, u]
def pkgV (n : Int) (s : V.Bs) : Value := .agg #[.int .i64 n, .string ⟨s.toArray⟩]
theorem two_ints (w : World) (a b : Int) (t : TypeId) : ∀ j, j < [a, b].length -> (w.alloc (.cells #[.int .i64 a, .int .i64 b] t)).cell? ⟨w.heap.size, j, none⟩ = some (.int .i64 ([a, b].getD j 0)) := by
 exact zyz
theorem zuh (w : World) (a b : Int) (t : TypeId) : ∀ j, j < [a, b].length -> (w.alloc (.cells #[.int .i64 a, .int .i64 b] t)).drew.cell? ⟨w.heap.size, j, none⟩ = some (.int .i64 ([a, b].getD j 0)) := fun j hj => by
 rw [World.cell?_drew]; exact two_ints w a b t j hj
theorem zcr {w : World} (o1 o2 : Obj) : Below w.heap.size w ((w.alloc o1).alloc o2) /\ (∀ k, ((w.alloc o1).alloc o2).cell? ⟨w.heap.size, k, none⟩ = (w.alloc o1).cell? ⟨w.heap.size, k, none⟩) /\ (∀ k, ((w.alloc o1).alloc o2).cell? ⟨w.heap.size + 1, k, none⟩ = ((w.alloc o1).alloc o2).cell? ⟨(w.alloc o1).heap.size, k, none⟩) := by
 refine ⟨((zu1 _ w).alloc (zu0 _) _).alloc (by simp) _, fun k => ?_, fun k => by rw [World.size_alloc]⟩
 exact ((zu1 _ (w.alloc o1)).alloc (zu0 _) o2).cell (p := ⟨w.heap.size, k, none⟩) (by show w.heap.size < _; simp)
theorem zkl (a b : V.Aff) (ua va : Option Addr) (un uc vn vc : Nat) (w : World) :
  Calls Tryz.prog 70 #[affV a (.slice ua un uc), affV b (.slice va vn vc)] w fun e w' => e = .returned (.int .i64 (V.affC a b)) /\ Below w.heap.size w w' := by
 obtain ⟨hb, h0, h1⟩ := zcr (w := w) (.cells #[.int .i64 a.sch, .string ⟨a.name.toArray⟩, .int .i64 a.rs, .slice ua un uc] 50) (.cells #[.int .i64 b.sch, .string ⟨b.name.toArray⟩, .int .i64 b.rs, .slice va vn vc] 50)
 have HB := zuy hb
 have c0 := (h0 0).trans (World.cell?_alloc_new ..)
 have c1 := (h0 1).trans (World.cell?_alloc_new ..)
 have d0 := (h1 0).trans (World.cell?_alloc_new ..)
 have d1 := (h1 1).trans (World.cell?_alloc_new ..)
 simp only [List.getElem?_toArray, List.getElem?_cons_zero, List.getElem?_cons_succ] at c0 c1 d0 d1
 clear hb h0 h1
 have HF : Hid (V.affC a b = V.orI [Lib.compareInt a.sch b.sch, Lib.compareBytes a.name b.name]) := zuy rfl
 unfold affV
 go_enter Tryz.func70, Tryz.ntmps70
 go_wp2_with fail
 generalize (w.alloc (.cells #[.int .i64 a.sch, .string ⟨a.name.toArray⟩, .int .i64 a.rs, .slice ua un uc] 50)).alloc (.cells #[.int .i64 b.sch, .string ⟨b.name.toArray⟩, .int .i64 b.rs, .slice va vn vc] 50) = w0 at *
 refine wp_region_held_drew (S := (fun W' => W'.cell? ⟨w.heap.size, 0, none⟩ = some (.int .i64 a.sch) /\ W'.cell? ⟨w.heap.size, 1, none⟩ = some (.string ⟨a.name.toArray⟩) /\ W'.cell? ⟨w.heap.size + 1, 0, none⟩ = some (.int .i64 b.sch) /\ W'.cell? ⟨w.heap.size + 1, 1, none⟩ = some (.string ⟨b.name.toArray⟩))) (by kernel_rfl) (by (try dsimp only); exact ⟨zb (zu1 _ _).drew c0, zb (zu1 _ _).drew c1, zb (zu1 _ _).drew d0, zb (zu1 _ _).drew d1⟩) (fun hHeld => ?_)
 refine tk 0 ?_
 refine tk 1 ?_
 refine tk 2 ?_
 refine tk 3 ?_
 refine tk 5 ?_
 refine tk 6 ?_
 refine tk 7 ?_
 refine tk 8 ?_
 refine rd 4 fun K hK => ?_
 go_simp
 refine (Tryz.cmp_Compare_int _ _ _).mono ?_
 rintro e w' ⟨rfl, rfl⟩
 try dsimp only
 refine hK.out _ _ ?_ (fun hHeld => nx ?_)
 ·(try dsimp only); exact hHeld
 clear hK K
 refine rd 9 fun K hK => ?_
 go_simp
 refine (zq6 _ _ _).mono ?_
 rintro e w' ⟨rfl, rfl⟩
 try dsimp only
 try rw [ww, ww]
 refine hK.out _ _ ?_ (fun hHeld => nx ?_)
 ·(try dsimp only); exact hHeld
 clear hK K
 refine rd 10 fun K hK => ?_
 go_simp
 refine hK.out _ _ ?_ (fun hHeld => nx ?_)
 ·(try dsimp only); exact ⟨zb ((zu1 _ _).alloc (zu0 _) _) hHeld.1, zb ((zu1 _ _).alloc (zu0 _) _) hHeld.2.1, zb ((zu1 _ _).alloc (zu0 _) _) hHeld.2.2.1, zb ((zu1 _ _).alloc (zu0 _) _) hHeld.2.2.2⟩
 clear hK K
 refine rd 11 fun K hK => ?_
 go_simp
 refine (znq _ [Lib.compareInt a.sch b.sch, Lib.compareBytes a.name b.name] _ (by simp) (zuh _ _ _ _)).mono ?_
 rintro e w' ⟨rfl, rfl⟩
 try dsimp only
 refine hK.out _ _ ?_ (fun hHeld => nx ?_)
 ·(try dsimp only); exact hHeld
 clear hK K
 refine tk 12 ?_
 refine wpAnyH_done (by kernel_rfl) ?_ _
 have hb9 : Below w0.heap.size w0 (w0.alloc (.cells #[.int .i64 (Lib.compareInt a.sch b.sch), .int .i64 (Lib.compareBytes a.name b.name)] 3)).drew := ((zu1 _ w0).alloc (zu0 _) _).drew
 have HB9 := zuz HB hb9
 clear hb9 hHeld
 go_wp2
 go_ret
 exact ⟨zn HF.out.symm, HB9.out⟩
theorem zxu {P : Prop} (h : P := by
 go_enter Tryz.func75, Tryz.ntmps75
 go_wp2
 go_ret
 exact ⟨zd HF.out.symm, HB.out⟩) : P := h
theorem zpa (n m : Int) (s t : V.Bs) (w : World) :
  Calls Tryz.prog 75 #[pkgV n s, pkgV m t] w fun e w' => e = .returned (.bool (decide (V.orI [Lib.compareInt n m, Lib.compareBytes s t] < 0))) /\ Below w.heap.size w w' := by
 have HB := zuy (zcr (w := w) (.cells #[.int .i64 n, .string ⟨s.toArray⟩] 79) (.cells #[.int .i64 m, .string ⟨t.toArray⟩] 79)).1
 have hbl : Op.bytesLess (⟨s.toArray⟩ : ByteArray).toList (⟨t.toArray⟩ : ByteArray).toList = decide (Lib.compareBytes s t < 0) := by rw [Lib.toList_data, Lib.toList_data]; exact vi _ _
 have hbl2 : Op.bytesLess s t = decide (Lib.compareBytes s t < 0) := vi _ _
 unfold pkgV
 by_cases h1 : n < m
 ·have HF : Hid (decide (V.orI [Lib.compareInt n m, Lib.compareBytes s t] < 0) = true) := zuy (by
    have e : Lib.compareInt n m = -1 := by unfold Lib.compareInt; rw [if_pos h1]
    rw [e]; rfl)
  exact zxu
 ·by_cases h2 : n = m
  ·subst h2
   have HF : Hid (decide (V.orI [Lib.compareInt n n, Lib.compareBytes s t] < 0) = decide (Lib.compareBytes s t < 0)) := zuy (by
     have e : Lib.compareInt n n = 0 := by unfold Lib.compareInt; rw [if_neg (by omega), if_neg (by omega)]
     rw [e]
     unfold V.orI V.orI V.orI V.cor
     simp
     split <;> simp_all)
   rw [HF.out]
   generalize decide (Lib.compareBytes s t < 0) = r at *
   go_enter Tryz.func75, Tryz.ntmps75
   go_wp2
   go_ret
   exact ⟨zd rfl, HB.out⟩
  ·have HF : Hid (decide (V.orI [Lib.compareInt n m, Lib.compareBytes s t] < 0) = false) := zuy (by
     have e : Lib.compareInt n m = 1 := by unfold Lib.compareInt; rw [if_neg h1, if_pos (by omega)]
     rw [e]; rfl)
   have h3 : (n == m) = false := by rw [zu2]; exact h2
   exact zxu
theorem zfm (a : V.Aff) (u : Value) (w : World) : Below w.heap.size w (w.alloc (.cells #[.int .i64 a.sch, .string ⟨a.name.toArray⟩, .int .i64 a.rs, u] 50)) /\ (w.alloc (.cells #[.int .i64 a.sch, .string ⟨a.name.toArray⟩, .int .i64 a.rs, u] 50)).cell? ⟨w.heap.size, 0, none⟩ = some (.int .i64 a.sch) /\ (w.alloc (.cells #[.int .i64 a.sch, .string ⟨a.name.toArray⟩, .int .i64 a.rs, u] 50)).cell? ⟨w.heap.size, 1, none⟩ = some (.string ⟨a.name.toArray⟩) /\ (w.alloc (.cells #[.int .i64 a.sch, .string ⟨a.name.toArray⟩, .int .i64 a.rs, u] 50)).cell? ⟨w.heap.size, 2, none⟩ = some (.int .i64 a.rs) /\ (w.alloc (.cells #[.int .i64 a.sch, .string ⟨a.name.toArray⟩, .int .i64 a.rs, u] 50)).cell? ⟨w.heap.size, 3, none⟩ = some u := by
 refine ⟨(zu1 _ w).alloc (zu0 _) _, ?_, ?_, ?_, ?_⟩ <;> (rw [World.cell?_alloc_new]; rfl)
theorem zls (a : V.Aff) (ua : Option Addr) (uc : Nat) (w : World) (hm : zg w) (hv : Itvs w (.slice ua a.its.length uc) a.its) (hs : Lens a.its) (hn : a.name.length ≤ maxLen) (hl : a.its.length ≤ maxLen) :
  Calls Tryz.prog 71 #[affV a (.slice ua a.its.length uc)] w fun e w' => e = .returned (.bool (V.kp a)) /\ Below w.heap.size w w' := by
 obtain ⟨hb, c0, c1, c2, c3⟩ := zfm a (.slice ua a.its.length uc) w
 have HM := zuy (hm.below hb)
 have HV := zuy (hv.below hb)
 have HS := zuy hs
 have HL := zuy hl
 have HN : Hid ((⟨a.name.toArray⟩ : ByteArray).size ≤ maxLen) := zuy (by rw [zch]; exact hn)
 have HB := zuy hb
 have hz : w.heap.size < (w.alloc (.cells #[.int .i64 a.sch, .string ⟨a.name.toArray⟩, .int .i64 a.rs, .slice ua a.its.length uc] 50)).heap.size := by simp
 have HF : Hid (V.kp a = (V.yj a.name && (decide (a.rs = a.sch) && (decide (1 ≤ a.its.length) && V.okR a.rs a.its)))) := zuy rfl
 clear hm hv hs hl hn hb
 unfold affV
 go_enter Tryz.func71, Tryz.ntmps71
 go_wp2_with fail
 generalize w.alloc (.cells #[.int .i64 a.sch, .string ⟨a.name.toArray⟩, .int .i64 a.rs, .slice ua a.its.length uc] 50) = w0 at *
 refine (path_any ⟨a.name.toArray⟩ w0 HM.out HN.out).mono ?_
 rintro e w1 ⟨rfl, hb1⟩
 rw [ww]
 have HB1 := zuz HB hb1
 have HM1 := zuy (HM.out.below hb1)
 have HV1 := zuy (HV.out.below hb1)
 replace c0 := zb hb1 c0
 replace c2 := zb hb1 c2
 replace c3 := zb hb1 c3
 clear hb1 c1 HB HM HV
 rcases hp : V.yj a.name with _ | _
 ·have HR : Hid (V.kp a = false) := zuy (by rw [HF.out, hp]; rfl)
  clear hp
  go_wp2
  go_ret
  exact ⟨zd HR.out.symm, HB1.out⟩
 ·by_cases hrs : a.rs = a.sch
  ·have hb2 : (a.rs == a.sch) = true := by simpa using hrs
   by_cases hln : 1 ≤ a.its.length
   ·have hi : (1 : Int) ≤ (a.its.length : Int) := by omega
    have HR : Hid (V.kp a = V.okR a.rs a.its) := zuy (by rw [HF.out, hp, decide_eq_true hrs, decide_eq_true hln]; rfl)
    clear hp hln
    rw [← hrs] at c0
    clear hrs hb2
    go_wp2_with fail
    refine (wm a.rs (.slice ua a.its.length uc) a.its w1 HM1.out HV1.out HS.out HL.out).mono ?_
    rintro e w2 ⟨rfl, hb3⟩
    have HB3 := zuz HB1 hb3
    clear hb3
    go_wp2
    go_ret
    exact ⟨zd HR.out.symm, HB3.out⟩
   ·have hi : ¬ (1 : Int) ≤ (a.its.length : Int) := by omega
    have HR : Hid (V.kp a = false) := zuy (by rw [HF.out, decide_eq_false hln]; simp)
    clear hp hln
    rw [← hrs] at c0
    clear hrs hb2
    go_wp2
    go_ret
    exact ⟨zd HR.out.symm, HB1.out⟩
  ·have hb2 : (a.rs == a.sch) = false := by rw [zu2]; exact hrs
   have HR : Hid (V.kp a = false) := zuy (by rw [HF.out, decide_eq_false hrs]; simp)
   clear hp
   go_wp2
   go_ret
   exact ⟨zd HR.out.symm, HB1.out⟩
end Go.Proofs.YtnhfaincdabdkaaGreatDoor
