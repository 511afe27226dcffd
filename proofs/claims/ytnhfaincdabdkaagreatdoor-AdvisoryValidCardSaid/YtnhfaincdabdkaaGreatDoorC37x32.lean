/-
  Lemmas for the law.
-/
import Derived.Test.YtnhfaincdabdkaaGreatDoorC37x24
import Derived.Test.YtnhfaincdabdkaaGreatDoorC37x09
import Derived.Test.YtnhfaincdabdkaaGreatDoorC37x03
import Derived.Test.YtnhfaincdabdkaaGreatDoorC37x19
import Derived.Lib.ItoaNum
import Derived.Sort.Grow
import Derived.Laws.Rows
import Derived.Deep.MidRow
set_option linter.all false
set_option maxRecDepth 100000
namespace Go.Proofs.YtnhfaincdabdkaaGreatDoor
open Go.RowKit
theorem zeo {α : Type} {enc : α -> List Value} {k : Nat} {T : TypeId} {ops : Array Oper} {o : Oper} {a : Act} {w : World} {K : Act -> World -> Prop} {Q : Exit -> Act -> World -> Prop} {E : Prop} (hk : ∀ x, (enc x).length = k) (hk0 : 0 < k) (h1c : ∀ x, ∀ u ∈ enc x, u.oneCell' = true) {bytes : Nat} (hi : xw T k bytes) (hby : bytes ≤ 1000) (hgd : o.guard = none) (s x : Operand) (S : TypeId)
  (ho : o.op = .call { callee := .builtin .append, args := #[s, x], argTypes := #[S, S] }) (hu : Tryz.prog.underlying S = some (.slice T))
  (N : Nat) (v : Value) (l : List α) (hs : a.eval s = v) (hown : GRow T k enc w N v l) (b : Nat) (c : α) (hx : a.eval x = .slice (some ⟨b, 0, none⟩) 1 1) (hr : ∀ j u, (enc c)[j]? = some u -> w.cell? ⟨b, j, none⟩ = some u) (hl : l.length ≤ 900000) (hN : N ≤ w.heap.size)
  (h : ∀ v' w', GRow T k enc w' N v' (l ++ [c]) -> w.grownBy w' v.ownBlock -> (v'.ownBlock = v.ownBlock ∨ v'.ownBlock = some w.heap.size) -> K (a.put o.dst v') w') : if Region.wanted o (yielded ops a.tmps) = true then Oper.wp Tryz.prog o a w K Q else E := by
 rw [if_pos (by simp [Region.wanted, hgd])]
 obtain ⟨ie, z, hie, hz, h1, h2, h3⟩ := hi
 obtain ⟨v', w', hr', ho', hg, _, hob⟩ := run_append_own_at (P := Tryz.prog) w N S o.type T ie z k bytes hu hie hz h1 h2 h3 hk0 v l.length (l.flatMap enc) hown ⟨b, 0, none⟩ 1 1 (enc c) (by rw [hk]; omega) (fun j u hj => by
   rw [Addr.add_mid, Nat.zero_add]
   exact hr j u hj) (h1c c) (by unfold maxLen; omega) (by
     have : (l.length + 1) * bytes ≤ 1000000 * 1000 := Nat.mul_le_mul (by omega) hby
     omega) hN
 unfold Oper.wp execOp
 simp only [ho, resolve, invoke, builtin, Sem.run_bind, Sem.run_pure, Result.andThen_ok, List.map_toArray, List.map_cons, List.map_nil, hs, hx, hr']
 refine h v' w' ?_ hg hob
 unfold GRow
 rw [List.length_append, List.flatMap_append]
 simpa using ho'
structure Lsl where
 a : Option Addr
 n : Nat
 c : Nat
def Lsl.v (s : Lsl) : Value := .slice s.a s.n s.c
def lslE (s : Lsl) : List Value := [s.v]
theorem zee (s : Lsl) : (lslE s).length = 1 := rfl
theorem zic (s : Lsl) : ∀ u ∈ lslE s, u.oneCell' = true := by
 intro u hu
 simp [lslE] at hu
 subst hu
 rfl
theorem zet : xw 61 1 24 := by
 have h : (match Tryz.prog.info? 61 with | some i => i.size == 1 && (i.bytes == 24 && (match i.zero with | some z => z.cells.size == 1 | none => false)) | none => false) = true := by kernel_rfl
 unfold xw
 cases hq : Tryz.prog.info? 61 with
 | none => rw [hq] at h; cases h
 | some i =>
  rw [hq] at h
  simp only [Bool.and_eq_true, beq_iff_eq] at h
  obtain ⟨h1, h2, h3⟩ := h
  cases hz : i.zero with
  | none => rw [hz] at h3; cases h3
  | some z =>
   rw [hz] at h3
   exact ⟨i, z, rfl, hz, h1, h2, by simpa using h3⟩
theorem Strs.grown {w w' : World} {v : Value} {l : List V.Bs} {row : Option Nat} (h : Strs w v l) (hg : w.grownBy w' row) (hs : l ≠ [] -> ∀ c, v.ownBlock = some c -> row ≠ some c) : Strs w' v l := by
 obtain ⟨a, cap, rfl, hx⟩ := h
 refine ⟨a, cap, rfl, fun j hj => ?_⟩
 obtain ⟨b, off, rfl, hlt, h0⟩ := hx j hj
 have hne : l ≠ [] := fun e => by rw [e] at hj; simp at hj
 have hb : row ≠ some b := hs hne b rfl
 exact ⟨b, off, rfl, Nat.lt_of_lt_of_le hlt hg.size, hg.cell h0 (fun e => hb e.symm)⟩
theorem zwq {P : Prop} (h : P := by
 obtain ⟨a, cap, rfl, hx⟩ := h
 obtain ⟨b, off, rfl, hlt, _⟩ := hx 0 (List.length_pos_iff.2 hl)
 simp [Value.ownBlock] at hc
 omega) : P := h
theorem Strs.lt {w : World} {v : Value} {l : List V.Bs} (h : Strs w v l) (hl : l ≠ []) {c : Nat} (hc : v.ownBlock = some c) : c < w.heap.size := by
 exact zwq
structure LRow (N : Nat) (w : World) (v : Value) (us : List Lsl) (ls : List (List V.Bs)) : Prop where
 row : GRow 61 1 lslE w N v us
 len : us.length = ls.length
 each : ∀ j (h : j < us.length) (h' : j < ls.length), Strs w us[j].v ls[j] /\ (ls[j] ≠ [] -> ∀ c, us[j].v.ownBlock = some c -> v.ownBlock ≠ some c)
theorem LRow.nil (N : Nat) (w : World) : LRow N w (.slice none 0 0) [] [] := ⟨GRow.nil _ _, rfl, fun j h => by simp at h⟩
theorem LRow.later {N : Nat} {w w' : World} {v : Value} {us : List Lsl} {ls : List (List V.Bs)} (h : LRow N w v us ls) (hb : Below w.heap.size w w') : LRow N w' v us ls :=
 ⟨GRow.below h.row hb, h.len, fun j hj hj' => ⟨yj (h.each j hj hj').1 hb, (h.each j hj hj').2⟩⟩
theorem zwd {P : Prop} (h : P := by
 refine ⟨hq.grown hg hn, fun hy c hc => ?_⟩
 rcases ho with e | e
 ·rw [e]; exact hn hy c hc
 ·rw [e]
  intro g
  have := hq.lt hy hc
  cases g
  omega) : P := h
theorem zxe {P : Prop} (h : P := by
 rw [List.getElem_append_left e, List.getElem_append_left e2]
 exact one _ _ (h.each j e e2).1 (h.each j e e2).2) : P := h
theorem LRow.add {N : Nat} {w w' : World} {v v' : Value} {us : List Lsl} {ls : List (List V.Bs)} {u : Lsl} {x : List V.Bs} (h : LRow N w v us ls) (hr : GRow 61 1 lslE w' N v' (us ++ [u])) (hg : w.grownBy w' v.ownBlock) (ho : v'.ownBlock = v.ownBlock ∨ v'.ownBlock = some w.heap.size)
  (hu : Strs w u.v x) (hs : x ≠ [] -> ∀ c, u.v.ownBlock = some c -> v.ownBlock ≠ some c) : LRow N w' v' (us ++ [u]) (ls ++ [x]) := by
 have one : ∀ (q : Value) (y : List V.Bs), Strs w q y -> (y ≠ [] -> ∀ c, q.ownBlock = some c -> v.ownBlock ≠ some c) -> Strs w' q y /\ (y ≠ [] -> ∀ c, q.ownBlock = some c -> v'.ownBlock ≠ some c) := fun q y hq hn => by
  exact zwd
 refine ⟨hr, by rw [List.length_append, List.length_append, h.len]; rfl, fun j hj hj' => ?_⟩
 by_cases e : j < us.length
 ·have e2 : j < ls.length := by rw [← h.len]; exact e
  exact zxe
 ·have ej : j = us.length := by rw [List.length_append, List.length_singleton] at hj; omega
  subst ej
  have e1 : (us ++ [u])[us.length] = u := by simp
  have e2 : (ls ++ [x])[us.length]'hj' = x := by simp [h.len]
  rw [e1, e2]
  exact one _ _ hu hs
theorem LRow.one {N : Nat} {w : World} {u : Lsl} {x : List V.Bs} (hN : N ≤ w.heap.size) (hu : Strs w u.v x) (h0 : x ≠ []) : LRow N (w.alloc (.cells #[u.v] 61)) (.slice (some ⟨w.heap.size, 0, none⟩) 1 1) [u] [x] := by
 have hb : Below w.heap.size w (w.alloc (.cells #[u.v] 61)) := (ztb _ w).alloc (zta _) _
 refine ⟨⟨rfl, .inr ⟨w.heap.size, 1, #[u.v], rfl, hN, ?_, zta _, by unfold maxLen; omega, rfl, rfl⟩⟩, rfl, fun j hj hj' => ?_⟩
 ·rw [heap_alloc, if_pos rfl]
 ·obtain rfl : j = 0 := by simpa using hj
  refine ⟨yj hu hb, fun _ c hc => ?_⟩
  have := hu.lt h0 hc
  intro e
  simp [Value.ownBlock] at e
  omega
theorem LRow.lines {N : Nat} {w : World} {v : Value} {us : List Lsl} {ls : List (List V.Bs)} (h : LRow N w v us ls) : Lines w v ls := by
 obtain ⟨a, cap, rfl⟩ := GRow.slice h.row
 refine ⟨a, cap, by rw [h.len], fun j hj => ?_⟩
 have hj' : j < us.length := by rw [h.len]; exact hj
 obtain ⟨g, cap2, e, hN, hg, hc⟩ := GRow.at zee h.row j hj'
 cases e
 exact ⟨g, 0, us[j].v, rfl, hg, by simpa using hc 0 us[j].v rfl, (h.each j hj' hj).1⟩
theorem LRow.slice {N : Nat} {w : World} {v : Value} {us : List Lsl} {ls : List (List V.Bs)} (h : LRow N w v us ls) : ∃ a cap, v = .slice a ls.length cap := by
 rw [← h.len]; exact GRow.slice h.row
theorem zdy (w : World) (l : List V.Bs) : Strs (w.alloc (.cells (l.map fun x => Value.string ⟨x.toArray⟩).toArray 9)) (.slice (some ⟨w.heap.size, 0, none⟩) l.length l.length) l :=
 ⟨_, _, rfl, fun j hj => ⟨w.heap.size, 0, rfl, by simp, by rw [Nat.zero_add, World.cell?_alloc_new]; simp [hj]⟩⟩
theorem zpp (w : World) (k : Nat) (os : Array Obj) : Below w.heap.size w (Sort.grow (w.drewN k) os) :=
 ⟨rfl, rfl, rfl, by simp, fun q hq => by rw [Sort.heap_grow_old _ _ (by simpa using hq)]; rfl⟩
theorem zg6 : ∀ (k u : Nat), u < 10 ^ k -> 0 < k -> Lib.nDigits u ≤ k
 | 0, _, _, h => absurd h (by omega)
 | 1, u, h, _ => by rw [Lib.nDigits_small (by simpa using h)]; exact zta _
 | k + 2, u, h, _ => by
  rw [Lib.nDigits]
  split
  ·omega
  ·have := zg6 (k + 1) (u / 10) (by rw [Nat.pow_succ] at h; omega) (by omega)
   omega
theorem zgf {n : Nat} (h : n ≤ 2199023255552) : (Lib.decDigits n).length ≤ 13 := by
 rw [Lib.decDigits_length]
 exact zg6 13 n (by omega) (by omega)
def zaq (q : Nat) : V.Bs := if q = 0 then [] else Lib.decDigits q
theorem zlc {q : Nat} (h : 0 < q) : zaq q = zaq (q / 10) ++ [UInt8.ofNat (48 + q % 10)] := by
 unfold zaq
 rw [if_neg (by omega), Lib.decDigits]
 split
 ·rename_i h10
  rw [if_pos (by omega), Nat.mod_eq_of_lt h10]
  rfl
 ·rw [if_neg (by omega)]
theorem zjh (n : Nat) (w : World) (hn : n ≤ 2199023255552) (htab : Lib.TabIs Tryz.prog w "internal/strconv.uint64pow10" .u64 Lib.pow10Tab) :
  Calls Tryz.prog 58 #[.int .i64 n] w fun e w' => e = .returned (.string ⟨(Lib.decDigits n).toArray⟩) /\ Below w.heap.size w w' := by
 have HT := zs8 htab
 clear htab
 go_enter Tryz.func58, Tryz.ntmps58
 go_wp2_with fail
 refine (Tryz.strconv_FormatInt_10 n (by omega) (by omega) w HT.out).mono ?_
 rintro e w' ⟨rfl, k, os, rfl⟩
 have HI : Hid (Lib.itoa n = Lib.decDigits n) := zs8 (by unfold Lib.itoa; rw [if_neg (by omega)]; simp)
 rw [HI.out]
 have HB := zs8 (zpp w k os)
 generalize Sort.grow (w.drewN k) os = w1 at *
 go_wp2
 go_ret
 exact ⟨rfl, HB.out⟩
theorem zsi (W : World) (n : Int) : (convert 22 9 (.slice (some ⟨W.heap.size, 0, none⟩) 1 1)).run Tryz.prog (W.alloc (.cells #[.int .u8 n] 5)) =
  .ok (.string ⟨#[UInt8.ofNat n.toNat]⟩) (W.alloc (.cells #[.int .u8 n] 5)) := by
 have h := run_convert_bytes_arg (P := Tryz.prog) (W.alloc (.cells #[.int .u8 n] 5)) 22 5 Tryz.underlying22 Tryz.underlying5 W.heap.size 0 1 1 [n] rfl (fun i hi => by
   obtain rfl : i = 0 := by omega
   rw [World.cell?_alloc_new]; rfl) 9 Tryz.underlying9
 exact h
theorem zhw (n : Nat) (w : World) (hn : n ≤ 2199023255552) :
  Calls Tryz.prog 66 #[.int .i64 n] w fun e w' => e = .returned (.string ⟨(Lib.decDigits n).toArray⟩) /\ Below w.heap.size w w' := by
 by_cases h0 : n = 0
 ·subst h0
  have HD : Hid (Lib.decDigits 0 = [48]) := zs8 (by rw [Lib.decDigits_one (by omega)]; rfl)
  rw [HD.out]
  go_enter Tryz.func66, Tryz.ntmps66
  go_wp2
  go_ret
  exact ⟨rfl, ztb _ _⟩
 ·have HD : Hid (Lib.decDigits n = zaq n) := zs8 (by unfold zaq; rw [if_neg h0])
  have HL : Hid ((Lib.decDigits n).length ≤ 13) := zs8 (zgf hn)
  have hb0 : ((n : Int) == 0) = false := by rw [ztc]; omega
  have hw : IntKind.u64.wrap (n : Int) = (n : Int) := by unfold IntKind.wrap; simp [IntKind.signed, IntKind.bits]; omega
  have hl0 : ¬ (n : Int) < 0 := by omega
  go_enter Tryz.func66, Tryz.ntmps66
  go_wp2
  go_loopw [4, 5] (fun uv sv wx => ∃ (q : Nat) (S : V.Bs), q ≤ n /\ uv = .int .u64 q /\ sv = .string ⟨S.toArray⟩ /\ Lib.decDigits n = zaq q ++ S /\ Below w.heap.size w wx) (fun uv _ _ => (intOf uv).toNat)
  case atStart => exact ⟨n, [], zta _, rfl, rfl, by rw [List.append_nil]; exact HD.out, ztb _ _⟩
  case round =>
   obtain ⟨q, S, hq, rfl, rfl, heq, hb⟩ := hrel
   have HE := zs8 heq
   have HB := zs8 hb
   have hsl : S.length ≤ 13 := by
    have := HL.out
    rw [heq, List.length_append] at this
    omega
   clear heq hb
   by_cases hq0 : q = 0
   ·subst hq0
    have HF : Hid (Lib.decDigits n = S) := zs8 (by rw [HE.out]; rfl)
    go_wp2
    go_ret
    exact ⟨congrArg (fun x => Ending.returned (.string x)) (jr (by rw [HF.out]; simp [ByteArray.data_append])), HB.out⟩
   ·have hq1 : (0 : Int) < (q : Int) := by omega
    have hrem : (q : Int).tmod 10 = ((q % 10 : Nat) : Int) := by rw [Int.tmod_eq_emod_of_nonneg (by omega)]; rfl
    have hquo : (q : Int).tdiv 10 = ((q / 10 : Nat) : Int) := by rw [Int.tdiv_eq_ediv_of_nonneg (by omega)]; rfl
    have hr10 : q % 10 < 10 := Nat.mod_lt _ (by omega)
    have HST : Hid (zaq q = zaq (q / 10) ++ [UInt8.ofNat (48 + q % 10)]) := zs8 (zlc (by omega))
    have hdle : q / 10 ≤ n := by omega
    have hdlt : q / 10 < q := by omega
    obtain ⟨r, hr⟩ : ∃ r, r = q % 10 := ⟨_, rfl⟩
    obtain ⟨p, hp⟩ : ∃ p, p = q / 10 := ⟨_, rfl⟩
    rw [← hr] at hrem HST hr10
    rw [← hp] at hquo HST hdle hdlt
    clear hr hp
    have hadd : IntKind.u64.wrap (48 + (r : Int)) = 48 + (r : Int) := by unfold IntKind.wrap; simp [IntKind.signed, IntKind.bits]; omega
    have hcv : IntKind.u8.wrap (48 + (r : Int)) = 48 + (r : Int) := by unfold IntKind.wrap; simp [IntKind.signed, IntKind.bits]; omega
    have hwr : IntKind.u64.wrap (r : Int) = (r : Int) := by unfold IntKind.wrap; simp [IntKind.signed, IntKind.bits]; omega
    have hwp : IntKind.u64.wrap (p : Int) = (p : Int) := by unfold IntKind.wrap; simp [IntKind.signed, IntKind.bits]; omega
    have hconv := zsi wr (48 + (r : Int))
    go_wp2
    go_roundw
    case rel => exact ⟨p, UInt8.ofNat (48 + r) :: S, hdle, rfl, congrArg Value.string (jr (by simp [ByteArray.data_append, UInt8.ofNat_add])), by rw [HE.out, HST.out]; simp, HB.out.trans (((ztb _ wr).alloc (zta _) _).mono HB.out.size)⟩
    case measure => simp [intOf]; omega
open Go.RowKit
theorem kf {P : Program} {fn : Func} {p q : Tmp} {ty : TypeId} (h : fn.results = #[.cell p ty, .tmp q]) {tmps : Array Value} {w : World} {a : Addr} {v u : Value}
  (hp : tmps.getD p undef = .pointer (some a)) (hq : tmps.getD q undef = u) (hl : (loadVar ty a).run P w = .ok v w) : (results fn tmps).run P w = .ok (.tuple #[v, u]) w := by
 have hp' : tmps[p]?.getD undef = .pointer (some a) := by simpa using hp
 have hq' : tmps[q]?.getD undef = u := by simpa using hq
 simp [results, h, hp', hq', asAddr, hl]
theorem zoi {P : Program} {fn : Func} {p : Tmp} {ty : TypeId} (h : fn.results = #[.cell p ty]) {tmps : Array Value} {w : World} {a : Addr} {v : Value}
  (hp : tmps.getD p undef = .pointer (some a)) (hl : (loadVar ty a).run P w = .ok v w) : (results fn tmps).run P w = .ok v w := by
 have hp' : tmps[p]?.getD undef = .pointer (some a) := by simpa using hp
 simp [results, h, hp', asAddr, hl]
theorem qh (w : World) (g : Nat) (cs : Array Value) : w.grownBy (w.setRow g cs) (some g) :=
 ⟨rfl, rfl, rfl, by simp, fun i _ hi => setRow_other w g i cs (fun e => hi (by rw [e]))⟩
theorem zlo {w : World} {g : Nat} {cs : Array Value} {t : TypeId} {fr : Nat × Nat} (o : Nat) (v : Value) (hg : w.heap[g]? = some (.cells cs t fr)) : (w.setCell ⟨g, o, none⟩ v).heap[g]? = some (.cells (cs.setIfInBounds o v) t fr) := by
 have hlt := (Array.getElem?_eq_some_iff.1 hg).1
 have hv := (Array.getElem?_eq_some_iff.1 hg).2
 unfold World.setCell
 rw [Array.getElem?_eq_getElem (by simpa using hlt), Array.getElem_modify]
 simp [hv]
theorem zpj {w : World} {g o : Nat} {cs : Array Value} {t : TypeId} (hg : w.heap[g]? = some (.cells cs t (0, 0))) : w.frozen? ⟨g, o, none⟩ = false := by
 simp [World.frozen?, hg]
theorem run_set {P : Program} {w : World} {b o : Nat} {ty : TypeId} {v u : Value} (hc : w.cell? ⟨b, o, none⟩ = some u) (hf : w.frozen? ⟨b, o, none⟩ = false) (hi : (P.info? ty).map (·.size) = some 1) (h1 : v.oneCell' = true) :
  (storeVar ty ⟨b, o, none⟩ v).run P w = .ok () (w.setCell ⟨b, o, none⟩ v) := by
 have := run_storeCells_cells (P := P) b o [v] 0 w (fun j hj => by obtain rfl : j = 0 := by simpa using hj
                                                                   simp [hc]) (fun j hj => by obtain rfl : j = 0 := by simpa using hj
                                                                                              simp [hf]) (fun x hx => by simp at hx; subst hx; exact h1)
 have hcs : v.cells = #[v] := by cases v <;> first | rfl | cases h1
 cases hq : P.info? ty with
 | none => simp [hq] at hi
 | some i =>
  exact zwp
theorem wl_set {ops : Array Oper} {rest : List Oper} {o : Oper} {a : Act} {w : World} {Q : Exit -> Act -> World -> Prop} (hgd : o.guard = none) (ty : TypeId) (x y : Operand) (ho : o.op = .store ty x y)
  (b off : Nat) (hx : a.eval x = .pointer (some ⟨b, off, none⟩)) (v : Value) (hy : a.eval y = v) (u : Value) (hc : w.cell? ⟨b, off, none⟩ = some u) (hf : w.frozen? ⟨b, off, none⟩ = false) (hi : (Tryz.prog.info? ty).map (·.size) = some 1) (h1 : v.oneCell' = true)
  (h : wpList Tryz.prog ops Q rest (a.put o.dst undef) (w.setCell ⟨b, off, none⟩ v)) : wpList Tryz.prog ops Q (o :: rest) a w :=
 wpList_plain hgd fun K hK => by
  unfold Oper.wp execOp
  simp only [ho, hx, hy, Instr.storeAt, Instr.sureAddr, Sem.run_bind, Sem.run_pure, Result.andThen_ok, run_set hc hf hi h1]
  exact hK _ _ h
namespace V
theorem zkx {ls : List (List Bs)} {M : Nat} (h : ∀ x ∈ ls, jk x x.length ≤ M) : ∀ k, k ≤ ls.length -> jo ls k ≤ k * M
 | 0, _ => by simp [jo]
 | k + 1, hk => by
  rw [xf (by omega)]
  have h1 := zkx h k (by omega)
  have h2 := h _ (List.getElem_mem (show k < ls.length by omega))
  rw [Nat.succ_mul]
  omega
theorem _root_.Go.Proofs.YtnhfaincdabdkaaGreatDoor.zvb {P : Prop} (h : P := by
 rw [List.take_length]
 induction x with
 | nil => simp
 | cons u x ih =>
  rw [List.map_cons, List.sum_cons, List.length_cons, Nat.succ_mul]
  have h1 := h u (List.mem_cons_self ..)
  have h2 := ih fun v hv => h v (List.mem_cons_of_mem _ hv)
  omega) : P := h
theorem zpc {x : List Bs} {M : Nat} (h : ∀ u ∈ x, uk u + 1 ≤ M) : jk x x.length ≤ x.length * M := by
 unfold jk
 exact zvb
end V
theorem zm1 {P : Program} {w w' : World} {name : String} {k : IntKind} {zs : List Int} (h : Lib.TabIs P w name k zs) (hb : Below w.heap.size w w') : Lib.TabIs P w' name k zs := by
 unfold Lib.TabIs World.var? at *
 cases hg : P.globalNamed name with
 | none => rw [hg] at h; cases h
 | some g =>
  rw [hg] at h
  simp only [Option.bind_some] at h ⊢
  cases hq : w.heap[g]? with
  | none => rw [hq] at h; cases h
  | some o => rw [hb.block g (Array.getElem?_eq_some_iff.1 hq).1]; exact h
def zcj (w : World) : Prop := Lib.TabIs Tryz.prog w "internal/strconv.uint64pow10" .u64 Lib.pow10Tab
theorem zcj.below {w w' : World} (h : zcj w) (hb : Below w.heap.size w w') : zcj w' := zm1 h hb
theorem zb {W W' : World} {b o : Nat} {v : Value} (hb : Below W.heap.size W W') (h : W.cell? ⟨b, o, none⟩ = some v) : W'.cell? ⟨b, o, none⟩ = some v :=
 (hb.cell (p := ⟨b, o, none⟩) (World.block_lt_of_cell? _ _ h)).trans h
def xy (l : List V.Bs) : Array Value := (l.map fun x => Value.string ⟨x.toArray⟩).toArray
theorem infoS : ∃ i, Tryz.prog.info? 9 = some i /\ i.zero = some (.string ⟨#[]⟩) /\ i.size = 1 /\ i.bytes = 16 := by
 have h : (Tryz.prog.info? 9).map (fun i => (i.zero, i.size, i.bytes)) = some (some (.string ⟨#[]⟩), 1, 16) := by kernel_rfl
 exact zw0
theorem wj {ops : Array Oper} {o : Oper} {a : Act} {w : World} {K : Act -> World -> Prop} {Q : Exit -> Act -> World -> Prop} {E : Prop} (hgd : o.guard = none) (e1 : Operand) (ho : o.op = .buildSlice 64 1 #[(0, e1)])
  (u : Lsl) (h1 : a.eval e1 = u.v)
  (h : K (a.put o.dst (.slice (some ⟨w.heap.size, 0, none⟩) 1 1)) (w.alloc (.cells #[u.v] 61))) : if Region.wanted o (yielded ops a.tmps) = true then Oper.wp Tryz.prog o a w K Q else E := by
 rw [if_pos (by simp [Region.wanted, hgd])]
 obtain ⟨ie, z, hie, hz, q1, q2, q3⟩ := zet
 refine wp_buildSlice _ 61 1 _ ho #[u.v] ie z Tryz.underlying64 hie hz (by rw [q1]; decide) (by rw [q1]; decide) ?_ h
 have := Great.fill_whole (s := 1) (by decide) [u.v] ((Array.range (1 * ie.size)).map (z.cells[· % z.cells.size]!)) (fun v hv => by
   rw [List.mem_singleton.1 hv]; rfl) (by rw [q1]; simp)
 rw [q1] at this ⊢
 simp only [h1, List.map_toArray, List.map_cons, List.map_nil]
 exact this
theorem zk1 (w : World) (u : Lsl) : ∀ j v, (lslE u)[j]? = some v -> (w.alloc (.cells #[u.v] 61)).cell? ⟨w.heap.size, j, none⟩ = some v := fun j v h => by
 rw [World.cell?_alloc_new]
 simpa [lslE] using h
theorem zf0 {n : Int} (h0 : 0 ≤ n) (h1 : n ≤ 2199023255552) (w : World) (hp : zcj w) :
  Calls Tryz.prog 58 #[.int .i64 n] w fun e w' => e = .returned (.string ⟨(Lib.decDigits n.toNat).toArray⟩) /\ Below w.heap.size w w' := by
 have := zjh n.toNat w (by omega) hp
 rwa [Int.toNat_of_nonneg h0] at this
theorem zd6 {n : Int} (h0 : 0 ≤ n) (h1 : n ≤ 2199023255552) (w : World) :
  Calls Tryz.prog 66 #[.int .i64 n] w fun e w' => e = .returned (.string ⟨(Lib.decDigits n.toNat).toArray⟩) /\ Below w.heap.size w w' := by
 have := zhw n.toNat w (by omega)
 rwa [Int.toNat_of_nonneg h0] at this
structure EncS (N : Nat) (W0 : World) (v : Value) (ls : List (List V.Bs)) (w : World) : Prop where
 row : ∃ us, LRow N w v us ls
 below : Below N W0 w
 size : N ≤ w.heap.size
end Go.Proofs.YtnhfaincdabdkaaGreatDoor
