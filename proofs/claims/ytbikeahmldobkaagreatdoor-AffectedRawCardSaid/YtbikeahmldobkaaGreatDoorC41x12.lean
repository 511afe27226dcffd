/-
  Lemmas for the law.
-/
import Derived.Test.YtbikeahmldobkaaGreatDoorC41x11
import Derived.Test.YtbikeahmldobkaaGreatDoorC41x04
import Derived.Maps.OwnSet
import Derived.DeepKeys5
import Derived.Laws.AppendOwn
import Derived.OwnWalk
import Derived.Still
set_option linter.all false
set_option maxRecDepth 100000
set_option maxHeartbeats 1600000
namespace Go.Proofs.YtbikeahmldobkaaGreatDoor
open Go.RowKit
def Comps (w : World) (v : Value) (l : List V.Comp) : Prop :=
 ∃ a cap, v = .slice a l.length cap /\ ∀ j (h : j < l.length), CompWf l[j] /\ ∃ b off, a = some ⟨b, off, none⟩ /\ b < w.heap.size /\ w.rangeAt b (off + j * 36) (qr l[j])
theorem Comps.nil (w : World) : Comps w (.slice none 0 0) [] := ⟨none, 0, rfl, fun j h => by simp at h⟩
theorem Comps.below {w w' : World} {v : Value} {l : List V.Comp} (h : Comps w v l) (hb : Below w.heap.size w w') : Comps w' v l := by
 obtain ⟨a, cap, e, hc⟩ := h
 refine ⟨a, cap, e, fun j hj => ?_⟩
 obtain ⟨hw, b, off, ea, hlt, hr⟩ := hc j hj
 exact ⟨hw, b, off, ea, Nat.lt_of_lt_of_le hlt hb.size, zh hr hb⟩
theorem Comps.at {w : World} {a : Option Addr} {n cap : Nat} {l : List V.Comp} (h : Comps w (.slice a n cap) l) (j : Nat) (hj : j < l.length) :
  CompWf l[j] /\ ∃ b off, a = some ⟨b, off, none⟩ /\ b < w.heap.size /\ w.rangeAt b (off + j * 36) (qr l[j]) := by
 obtain ⟨a', c, e, hc⟩ := h
 cases e
 exact hc j hj
theorem zhr {P : Program} {ops : Array Oper} {rest : List Oper} {o : Oper} {a : Act} {w : World} {Q : Exit -> Act -> World -> Prop} (hw : Region.wanted o (yielded ops a.tmps) = true)
  (h : ∀ K : Act -> World -> Prop, (∀ a w, wpList P ops Q rest a w -> K a w) -> o.wp P a w K Q) : wpList P ops Q (o :: rest) a w :=
 wpList_step fun K hK => by rw [if_pos hw]; exact h K hK
theorem zna {ops : Array Oper} {rest : List Oper} {o : Oper} {a : Act} {w : World} {Q : Exit -> Act -> World -> Prop} (hw : Region.wanted o (yielded ops a.tmps) = true) (x : Operand) (ho : o.op = .load 60 x)
  (b off : Nat) (hx : a.eval x = .pointer (some ⟨b, off, none⟩)) (c : V.Comp) (hc : CompWf c) (hr : w.rangeAt b off (qr c))
  (h : wpList Tryz.prog ops Q rest (a.put o.dst (.agg (ccells c))) w) : wpList Tryz.prog ops Q (o :: rest) a w :=
 zhr hw fun K hK => by
  obtain ⟨d, hu, hd⟩ := zjq
  exact wp_load_mid _ x ho b off hx (qr c) d hr hu hd (by rw [zb2]; have := hc.size; unfold ccells at this; simp at this; rw [this]) (hK _ _ h)
def CMap (w : World) (b n : Nat) (l : List V.Comp) : Prop :=
 ∃ D : DataW Unit, w.ownsMap Tryz.prog 60 (Go.plainElem Tryz.prog 4) b n D /\ (∃ es, D = .map es) /\ ∀ c, CompWf c -> D.atKey (.string (keyBytes (ko c))) (.lit (.bool false)) = .lit (.bool (decide (c ∈ l)))
theorem zk9 : Go.Maps.Keyed Tryz.prog 60 := by
 refine Go.Maps.Keyed.of_law (deep_law_gate laidOutK ?_ ?_ ?_ ?_)
 ·exact of_decide_eq_true (by kernel_rfl)
 ·exact of_decide_eq_true (by kernel_rfl)
 ·kernel_rfl
 ·kernel_rfl
theorem zof (w : World) : (zeroValue 4).run Tryz.prog w = .ok (.bool false) w := by kernel_rfl
theorem CMap.made (w : World) : CMap (w.alloc (.map #[] 0)) w.heap.size 0 [] :=
 ⟨.map [], World.ownsMap_made _ _ _ _, ⟨[], rfl⟩, fun c _ => by simp [DataW.atKey]⟩
theorem CMap.kept {w w' : World} {b n : Nat} {l : List V.Comp} (h : CMap w b n l) (hb : Below w.heap.size w w') : CMap w' b n l := by
 obtain ⟨D, h1, h2, h3⟩ := h
 exact ⟨D, h1.kept (row := none) ⟨hb.os, hb.tape, hb.output, hb.size, fun k hk _ => hb.block k hk⟩ (by simp), h2, h3⟩
theorem zin {a b : V.Comp} (ha : CompWf a) (hb : CompWf b) (h : Lit.string (keyBytes (ko a)) = .string (keyBytes (ko b))) : a = b :=
 zb8 (keyLits_inj (uw 0 ha) (uw 0 hb) (by simpa using h))
theorem zok {v : Value} {z : DataW Unit × List MemPlace} (h : Go.plainElem Tryz.prog 4 v = some z) : ∃ x, v = .bool x /\ z = (.lit (.bool x), []) := by
 unfold Go.plainElem at h
 rw [Tryz.underlying4] at h
 cases v <;> simp at h
 exact ⟨_, rfl, h.symm⟩
theorem CMap.look {w : World} {b n : Nat} {l : List V.Comp} (h : CMap w b n l) {c : V.Comp} (hc : CompWf c) : (Instr.lookup 105 (.map (some b)) (.agg (ccells c)) false).run Tryz.prog w = .ok (.bool (decide (c ∈ l))) w := by
 obtain ⟨D, h1, _, h3⟩ := h
 obtain ⟨v, ps, hrun, hv⟩ := h1.lookup zk9 Tryz.underlying105 (zof w) (Go.plainElem_bool Tryz.underlying4 false) (zb9 hc)
 obtain ⟨x, rfl, hz⟩ := zok hv
 rw [hrun]
 have := (Prod.mk.inj hz).1
 rw [h3 c hc] at this
 injection this with this
 injection this with this
 rw [this]
theorem zgz {ops : Array Oper} {rest : List Oper} {o : Oper} {a : Act} {w : World} {Q : Exit -> Act -> World -> Prop} (hw : Region.wanted o (yielded ops a.tmps) = true) (m x : Operand) (ho : o.op = .lookup 105 m x false)
  (b n : Nat) (l : List V.Comp) (hm : a.eval m = .map (some b)) (hown : CMap w b n l) (c : V.Comp) (hc : CompWf c) (hx : a.eval x = .agg (ccells c))
  (h : wpList Tryz.prog ops Q rest (a.put o.dst (.bool (decide (c ∈ l)))) w) : wpList Tryz.prog ops Q (o :: rest) a w :=
 zhr hw fun K hK => by
  unfold Oper.wp
  simp [execOp, ho, hm, hx, hown.look hc, Result.andThen]
  exact hK _ _ h
theorem zoa {ops : Array Oper} {rest : List Oper} {o : Oper} {a : Act} {w : World} {Q : Exit -> Act -> World -> Prop} (hg : o.guard = none) (m x v : Operand) (ho : o.op = .mapUpdate 105 m x v)
  (b n : Nat) (l : List V.Comp) (hm : a.eval m = .map (some b)) (hown : CMap w b n l) (hn : n < maxLen) (c : V.Comp) (hc : CompWf c) (hx : a.eval x = .agg (ccells c)) (hv : a.eval v = .bool true)
  (h : ∀ w', CMap w' b (n + 1) (l ++ [c]) -> w.grownBy w' (some b) -> wpList Tryz.prog ops Q rest (a.put o.dst undef) w') : wpList Tryz.prog ops Q (o :: rest) a w := by
 obtain ⟨D, h1, ⟨es, he⟩, h3⟩ := hown
 refine wpList_mapUpdate_own w hg m x v 105 ho 60 4 zk9 Tryz.underlying105 (Go.plainElem Tryz.prog 4) b n D hm h1 hn _ _ _ hx hv (zb9 hc) (.lit (.bool true)) [] (Go.plainElem_bool Tryz.underlying4 true) ?_
 intro w' g1 g2
 refine h w' ⟨_, g1, Go.Maps.IsMap.put ⟨es, he⟩ _ _, fun c' hc' => ?_⟩ g2
 by_cases e : c' = c
 ·subst e
  rw [Go.Maps.atKey_put_same (k := Lit.string (keyBytes (ko c'))) ⟨es, he⟩ trivial]
  simp
 ·rw [Go.Maps.atKey_put_other (fun g => e (zin hc' hc g)), h3 c' hc']
  congr 2
  simp [e]
open Go.RowKit
theorem zml {c : V.Comp} (h : CompWf c) : (qr c).length = 36 := by have := h.size; unfold ccells at this; simpa using this
theorem zoi {ops : Array Oper} {rest : List Oper} {o : Oper} {a : Act} {w : World} {Q : Exit -> Act -> World -> Prop} (hgd : o.guard = none) (x : Operand) (ho : o.op = .buildSlice 27 1 #[(0, x)])
  (c : V.Comp) (hc : CompWf c) (hx : a.eval x = .agg (ccells c))
  (h : wpList Tryz.prog ops Q rest (a.put o.dst (.slice (some ⟨w.heap.size, 0, none⟩) 1 1)) (w.alloc (.cells (ccells c) 60))) : wpList Tryz.prog ops Q (o :: rest) a w := by
 obtain ⟨ie, z, hie, hsz, hz⟩ := compIE
 refine wpList_buildSlice hgd _ 60 1 _ ho (ccells c) ie z Tryz.underlying27 hie hz (by rw [hsz]; decide) (by rw [hsz]; decide) ?_ h
 have := Great.fill_whole (s := 36) (by decide) [Value.agg (ccells c)] ((Array.range (1 * ie.size)).map (z.cells[· % z.cells.size]!)) (fun v hv => by
   rcases List.mem_cons.1 hv with rfl | hv
   · exact hc.size
   · cases hv) (by rw [hsz]; simp)
 rw [hsz] at this ⊢
 simp only [hx, List.map_toArray, List.map_cons, List.map_nil]
 exact this.trans (by simp [Value.cells])
theorem zeu {ops : Array Oper} {o : Oper} {a : Act} {w : World} {K : Act -> Prop} {E : Prop} (hw : Region.wanted o (yielded ops a.tmps) = true) (x : Operand) (ho : o.op = .load 60 x)
  (b off : Nat) (hx : a.eval x = .pointer (some ⟨b, off, none⟩)) (c : V.Comp) (hc : CompWf c) (hr : w.rangeAt b off (qr c)) (h : K (a.put o.dst (.agg (ccells c)))) :
  if Region.wanted o (yielded ops a.tmps) = true then o.still Tryz.prog a w K else E := by
 rw [if_pos hw]
 unfold Oper.still execOp
 simp only [ho, hx, Sem.run_bind, zn5 hc hr, Result.andThen_ok, Sem.run_pure, Oper.stillUpon_value]
 exact h
theorem zoz {ops : Array Oper} {o : Oper} {a : Act} {w : World} {K : Act -> Prop} {E : Prop} (hw : Region.wanted o (yielded ops a.tmps) = true) (x y : Operand) (ho : o.op = .binOp .eql 60 x y 60)
  (c d : V.Comp) (hc : CompWf c) (hd : CompWf d) (hx : a.eval x = .agg (ccells c)) (hy : a.eval y = .agg (ccells d)) (h : K (a.put o.dst (.bool (decide (c = d))))) :
  if Region.wanted o (yielded ops a.tmps) = true then o.still Tryz.prog a w K else E := by
 rw [if_pos hw]
 unfold Oper.still execOp
 simp only [ho, hx, hy, Sem.run_bind, run_eqGuard_agg w .eql 60 x y _ _ zl6, Result.andThen_ok, run_eql_struct, eq_comp hc hd, Sem.run_pure, Oper.stillUpon_value]
 exact h
def qg (d : List Int) : Prop := d.length = 32 /\ ∀ n ∈ d, (Lit.int .u8 n).wf = true
def Digs (w : World) (v : Value) (l : List (List Int)) : Prop :=
 ∃ a cap, v = .slice a l.length cap /\ ∀ j (h : j < l.length), qg l[j] /\ ∃ b off, a = some ⟨b, off, none⟩ /\ (∃ cs fr, w.heap[b]? = some (.cells cs 26 fr)) /\ w.rangeAt b (off + j * 32) (zk l[j])
theorem Digs.nil (w : World) : Digs w (.slice none 0 0) [] := ⟨none, 0, rfl, fun j h => by simp at h⟩
theorem Digs.below {w w' : World} {v : Value} {l : List (List Int)} (h : Digs w v l) (hb : Below w.heap.size w w') : Digs w' v l := by
 obtain ⟨a, cap, e, hc⟩ := h
 refine ⟨a, cap, e, fun j hj => ?_⟩
 obtain ⟨hw, b, off, ea, hlt, hr⟩ := hc j hj
 obtain ⟨cs, fr, hg⟩ := hlt
 exact ⟨hw, b, off, ea, ⟨cs, fr, (hb.block b (Array.getElem?_eq_some_iff.1 hg).1).trans hg⟩, zh hr hb⟩
theorem Digs.grow {w w' : World} {v : Value} {l : List (List Int)} (h : Digs w v l) {row : Option Nat} (hg : w.grownBy w' row) (hr : ∀ b, row = some b -> ∃ cs t fr, w.heap[b]? = some (.cells cs t fr) /\ t ≠ 26) : Digs w' v l := by
 obtain ⟨a, cap, e, hc⟩ := h
 refine ⟨a, cap, e, fun j hj => ?_⟩
 obtain ⟨hw, b, off, ea, ⟨cs, fr, hb⟩, hra⟩ := hc j hj
 have hk : w'.heap[b]? = w.heap[b]? := hg.block b (Array.getElem?_eq_some_iff.1 hb).1 (fun e => by
   obtain ⟨cs', t, fr', h1, h2⟩ := hr b e.symm
   rw [hb] at h1
   cases h1
   exact h2 rfl)
 refine ⟨hw, b, off, ea, ⟨cs, fr, hk.trans hb⟩, fun i u hu => ?_⟩
 rw [World.cell?_of_block (a := ⟨b, off + j * 32 + i, none⟩) hk]
 exact hra i u hu
theorem Digs.one {w : World} {v : Value} {l : List (List Int)} (h : Digs w v l) : v.oneCell' = true := by
 obtain ⟨a, cap, rfl, _⟩ := h; rfl
theorem wg {d : List Int} (h : qg d) : (zk d).length = 32 := by unfold zk; simp [h.1]
theorem zk0 : ∀ {l : List (List Int)}, (∀ d ∈ l, qg d) -> ∀ j (h : j < l.length) i, i < 32 -> (l.flatMap zk)[j * 32 + i]? = (zk l[j])[i]?
 | [], _, j, h, _, _ => by simp at h
 | d :: l, hw, 0, _, i, hi => by
  rw [List.flatMap_cons, List.getElem?_append_left (by rw [wg (hw d (by simp))]; omega)]
  simp
 | d :: l, hw, j + 1, h, i, hi => by
  have hl := wg (hw d (by simp))
  rw [List.flatMap_cons, List.getElem?_append_right (by rw [hl]; omega), hl, show (j + 1) * 32 + i - 32 = j * 32 + i by omega]
  rw [zk0 (fun c hc => hw c (by simp [hc])) j (by simpa using h) i hi]
  simp
theorem Digs.wf {w : World} {v : Value} {l : List (List Int)} (h : Digs w v l) : ∀ d ∈ l, qg d := by
 obtain ⟨a, cap, e, hc⟩ := h
 intro d hd
 obtain ⟨j, hj, rfl⟩ := List.getElem_of_mem hd
 exact (hc j hj).1
theorem zp4 {P : Prop} (h : P := by
 rw [hq] at h
 simp only [Bool.and_eq_true, beq_iff_eq] at h
 obtain ⟨h1, h2, h3⟩ := h
 cases hz : i.zero with
 | none => rw [hz] at h3; cases h3
 | some z =>
  rw [hz] at h3
  exact ⟨i, z, rfl, hz, h1, h2, by simpa using h3⟩) : P := h
theorem digIE3 : ∃ ie z, Tryz.prog.info? 26 = some ie /\ ie.zero = some z /\ ie.size = 32 /\ ie.bytes = 32 /\ z.cells.size = 32 := by
 have h : (match Tryz.prog.info? 26 with | some i => i.size == 32 && (i.bytes == 32 && (match i.zero with | some z => z.cells.size == 32 | none => false)) | none => false) = true := by kernel_rfl
 cases hq : Tryz.prog.info? 26 with
 | none => rw [hq] at h; cases h
 | some i =>
  exact zp4
theorem row_digs {w : World} {N : Nat} {v : Value} {l : List (List Int)} (h : w.ownsRow N 26 32 v l.length (l.flatMap zk)) (hw : ∀ d ∈ l, qg d) : Digs w v l := by
 rcases h.2 with ⟨rfl, h0⟩ | ⟨g, cap, cur, rfl, _, hg, hrest⟩
 ·exact ⟨none, 0, by rw [h0], fun j hj => by omega⟩
 ·refine ⟨_, cap, rfl, fun j hj => ⟨hw _ (List.getElem_mem hj), g, 0, rfl, ⟨_, _, hg⟩, fun i u hu => ?_⟩⟩
  have h32 := wg (hw _ (List.getElem_mem hj))
  have hi : i < 32 := by have := (List.getElem?_eq_some_iff.1 hu).1; omega
  have := World.ownsRow.cellAt h (j * 32 + i) (by omega)
  rw [Nat.zero_add, this, zk0 hw j hj i hi]
  exact hu
theorem jr {ops : Array Oper} {o : Oper} {a : Act} {w : World} {K : Act -> Prop} {E : Prop} (hw : Region.wanted o (yielded ops a.tmps) = true) (x : Operand) (ho : o.op = .load 26 x)
  (b off : Nat) (hx : a.eval x = .pointer (some ⟨b, off, none⟩)) (d : List Int) (hd : qg d) (hr : w.rangeAt b off (zk d)) (h : K (a.put o.dst (.agg (dcells d)))) :
  if Region.wanted o (yielded ops a.tmps) = true then o.still Tryz.prog a w K else E := by
 rw [if_pos hw]
 unfold Oper.still execOp
 have hl : (Instr.loadAt 26 (.pointer (some ⟨b, off, none⟩))).run Tryz.prog w = .ok (.agg (dcells d)) w := run_loadAt_mid w b off _ (zk d) _ hr Tryz.underlying26 rfl (by rw [zch, wg hd])
 simp only [ho, hx, Sem.run_bind, hl, Result.andThen_ok, Sem.run_pure, Oper.stillUpon_value]
 exact h
theorem zfo {ops : Array Oper} {o : Oper} {a : Act} {w : World} {K : Act -> Prop} {E : Prop} (hw : Region.wanted o (yielded ops a.tmps) = true) (x y : Operand) (ho : o.op = .binOp .neq 26 x y 26)
  (c d : List Int) (hc : qg c) (hd : qg d) (hx : a.eval x = .agg (dcells c)) (hy : a.eval y = .agg (dcells d)) (h : K (a.put o.dst (.bool (!decide (c = d))))) :
  if Region.wanted o (yielded ops a.tmps) = true then o.still Tryz.prog a w K else E := by
 rw [if_pos hw]
 unfold Oper.still execOp
 simp only [ho, hx, hy, Sem.run_bind, run_eqGuard_agg w .neq 26 x y _ _ jo, Result.andThen_ok, run_neq_struct, zim hc.1 hc.2 hd.1 hd.2, Sem.run_pure, Oper.stillUpon_value]
 exact h
theorem zmv (v v' : Value) (l : List (List Int)) (w : World) (hv : Digs w v l) (hv' : Digs w v' l) (hl : l.length ≤ 100000) :
  Calls Tryz.prog 65 #[v, v'] w fun e w' => e = .returned (.bool true) /\ Below w.heap.size w w' := by
 obtain ⟨va, vc, rfl, hat⟩ := hv
 obtain ⟨va', vc', rfl, hat'⟩ := hv'
 have HA := zpa hat
 have HA' := zpa hat'
 clear hat hat'
 go_enter Tryz.func65, Tryz.ntmps65
 go_wp2
 go_loopw [5] (fun jv wx => ∃ j : Nat, j ≤ l.length /\ jv = .int .i64 j /\ Below w.heap.size w wx) (fun jv _ => l.length - (intOf jv).toNat)
 case atStart => exact ⟨0, Nat.zero_le _, rfl, zpd _ _⟩
 case round =>
  obtain ⟨j, hj, rfl, hbx⟩ := hrel
  have HBX := zpa hbx
  clear hbx
  by_cases hlt : j < l.length
  ·obtain ⟨hdw, g, off, rfl, hgl, hc⟩ := HA.out j hlt
   obtain ⟨_, g', off', rfl, hgl', hc'⟩ := HA'.out j hlt
   have HD := zpa hdw
   have HR := zpa (zh (zh hc HBX.out) (zpd _ wr).drew)
   have HR' := zpa (zh (zh hc' HBX.out) (zpd _ wr).drew)
   have hi1 : (0 : Int) ≤ (j : Int) := by omega
   have hi2 : (j : Int) < (l.length : Int) := by omega
   clear hc hc' hdw
   generalize l[j] = d at *
   go_wp2
   refine wp_region_still_lit (by kernel_rfl) (by kernel_rfl) ?_
   still_step
   still_step
   still_step
   refine wpStill_step (fun K hK => ?_)
   refine jr rfl (.tmp 19) rfl g (off + j * 32) rfl d HD.out HR.out (hK _ ?_)
   clear hK K
   still_step
   still_step
   still_step
   refine wpStill_step (fun K hK => ?_)
   refine jr rfl (.tmp 23) rfl g' (off' + j * 32) rfl d HD.out HR'.out (hK _ ?_)
   clear hK K
   refine wpStill_step (fun K hK => ?_)
   refine zfo rfl (.tmp 20) (.tmp 24) rfl d d HD.out HD.out rfl rfl (hK _ ?_)
   clear hK K
   refine wpStill_nil ?_
   have HBD := zpa HBX.out.drew
   change Exit.then _ _ _ _ wr.drew
   rw [decide_eq_true (rfl : d = d)]
   go_wp2
   go_roundw
   case rel => exact ⟨j + 1, by omega, by go_num, HBD.out⟩
   case measure => simp [intOf]; omega
  ·obtain rfl : j = l.length := by omega
   go_wp2
   go_ret
   exact ⟨zf rfl, HBX.out⟩
theorem zjw (c : Int) (s : ByteArray) (sev : Int) (v v' : Value) (l : List (List Int)) (w : World) (hv : Digs w v l) (hv' : Digs w v' l) (hl : l.length ≤ 100000) :
  Calls Tryz.prog 37 #[.agg #[.int .i64 c, .string s, .int .i64 sev, v], .agg #[.int .i64 c, .string s, .int .i64 sev, v']] w fun e w' => e = .returned (.bool true) /\ Below w.heap.size w w' := by
 have HV := zpa hv
 have HV' := zpa hv'
 obtain ⟨va, vc, rfl, _⟩ := hv
 obtain ⟨va', vc', rfl, _⟩ := hv'
 go_enter Tryz.func37, Tryz.ntmps37
 go_wp2_with fail
 have hb : Below w.heap.size w ((w.alloc (.cells #[.int .i64 c, .string s, .int .i64 sev, .slice va l.length vc] 63)).alloc (.cells #[.int .i64 c, .string s, .int .i64 sev, .slice va' l.length vc'] 63)) := ((zpd _ w).alloc (zpc _) _).alloc (by simp) _
 have HB := zpa hb
 clear hb
 refine (zmv _ _ l _ (HV.out.below HB.out) (HV'.out.below HB.out) hl).mono ?_
 rintro e w' ⟨rfl, hb⟩
 have HB2 := zpb HB hb
 clear hb
 go_wp2
 go_ret
 exact ⟨zf rfl, HB2.out⟩
open Go.RowKit
theorem zdc (s : ByteArray) (w : World) :
  Calls Tryz.prog 234 #[.string s] w fun e w' => e = .returned (.string ⟨(V.value s.data.toList).toArray⟩) /\ w = w' := by
 go_enter Tryz.func234, Tryz.ntmps234
 go_wp2_with fail
 refine (Tryz.strings_TrimLeft_one s 48 (by decide) _).mono ?_
 rintro e w' ⟨rfl, rfl⟩
 go_wp2
 go_ret
 exact ⟨rfl, rfl⟩
theorem zqz {P : Prop} (h : P := by
 clear h0
 go_wp2
 go_round
 case rel => exact ⟨k + 1, by omega, by go_num, HR.out⟩
 case measure => simp [intOf]; omega) : P := h
theorem zi0 (b : Nat) (xs : List Int) (w : World) (hx : xs.length ≤ 100)
  (hc : ∀ j, j < xs.length -> w.cell? ⟨b, j, none⟩ = some (.int .i64 (xs.getD j 0))) :
  Calls Tryz.prog 152 #[.slice (some ⟨b, 0, none⟩) xs.length xs.length] w fun e w' => e = .returned (.int .i64 (V.orI xs)) /\ w = w' := by
 have HC := zpa hc
 clear hc
 go_enter Tryz.func152, Tryz.ntmps152
 go_wp2
 go_loop [8] (fun i => ∃ k : Nat, k ≤ xs.length /\ i = .int .i64 k /\ ∀ j, j < k -> xs.getD j 0 = 0) (fun i => xs.length - (intOf i).toNat)
 case atStart => exact ⟨0, Nat.zero_le _, rfl, fun j hj => by omega⟩
 case round =>
  obtain ⟨k, hk, rfl, hz⟩ := hrel
  have HZ := zpa hz
  clear hz
  by_cases hlt : k < xs.length
  ·have hcell := HC.out k hlt
   by_cases h0 : xs.getD k 0 = 0
   ·have HR : Hid (∀ j, j < k + 1 -> xs.getD j 0 = 0) := fun j hj => by
     by_cases e : j = k
     ·subst e; exact h0
     ·exact HZ.out j (by omega)
    rw [h0] at hcell
    exact zqz
   ·have HR : Hid (V.orI xs = xs.getD k 0) := by
     refine zpa ?_
     rw [V.zah xs k HZ.out]
     have e : xs.drop k = xs.getD k 0 :: xs.drop (k + 1) := by
      rw [List.drop_eq_getElem_cons hlt]; simp [List.getD, List.getElem?_eq_getElem hlt]
     rw [e]; unfold V.orI V.cor; rw [if_neg h0]
    have hb : (xs.getD k 0 != 0) = true := by simpa using h0
    generalize xs.getD k 0 = x at *
    clear h0
    go_wp2
    go_ret
    exact ⟨zn HR.out.symm, rfl⟩
  ·have HR : Hid (V.orI xs = 0) := by
       refine zpa ?_
       rw [V.zah xs k HZ.out, List.drop_of_length_le (by omega)]; rfl
   go_wp2
   go_ret
   exact ⟨zn HR.out.symm, rfl⟩
theorem zr9 {P : Prop} (h : P := by
 intro j hj
 rw [World.cell?_alloc_new]
 have : j = 0 ∨ j = 1 := by simp at hj; omega
 rcases this with rfl | rfl <;> rfl) : P := h
theorem xw (s t : ByteArray) (w : World) :
  Calls Tryz.prog 229 #[.string s, .string t] w fun e w' => e = .returned (.int .i64 (V.numbers s.data.toList t.data.toList)) /\ Below w.heap.size w w' := by
 have HF : Hid (V.numbers s.data.toList t.data.toList = V.orI [Lib.compareInt (V.value s.data.toList).length (V.value t.data.toList).length, Lib.compareBytes (V.value s.data.toList) (V.value t.data.toList)]) := zpa (by
   unfold V.numbers V.orI V.orI V.orI V.cor; split <;> simp)
 go_enter Tryz.func229, Tryz.ntmps229
 go_wp2_with fail
 refine (zdc s _).mono ?_
 rintro e w' ⟨rfl, rfl⟩
 go_wp2_with fail
 refine (zdc t _).mono ?_
 rintro e w' ⟨rfl, rfl⟩
 generalize V.value s.data.toList = x at *
 generalize V.value t.data.toList = y at *
 go_wp2_with fail
 refine (Tryz.cmp_Compare_int _ _ _).mono ?_
 rintro e w' ⟨rfl, rfl⟩
 go_wp2_with fail
 refine (Tryz.strings_Compare _ _ _).mono ?_
 rintro e w' ⟨rfl, rfl⟩
 go_wp2_with fail
 generalize Lib.compareInt _ _ = p at *
 generalize Lib.compareBytes _ _ = q at *
 refine (zi0 _ [p, q] _ (by simp) ?_).mono ?_
 ·exact zr9
 rintro e w' ⟨rfl, rfl⟩
 go_wp2
 go_ret
 exact ⟨zn HF.out.symm, (zpd _ _).alloc (zpc _) _⟩
theorem zez (s t : ByteArray) (w : World) (hs : s.size ≤ maxLen) (ht : t.size ≤ maxLen) :
  Calls Tryz.prog 231 #[.string s, .string t] w fun e w' => e = .returned (.int .i64 (V.jc s.data.toList t.data.toList)) /\ Below w.heap.size w w' := by
 have HF : Hid (V.jc s.data.toList t.data.toList = if V.digits s.data.toList && V.digits t.data.toList then V.numbers s.data.toList t.data.toList else if V.digits s.data.toList then -1 else if V.digits t.data.toList then 1 else Lib.compareBytes s.data.toList t.data.toList) := rfl
 rcases hx : V.digits s.data.toList with _ | _ <;> rcases hy : V.digits t.data.toList with _ | _
 all_goals
  have HX := zpa hx
  have HY := zpa hy
  clear hx hy
  rw [HX.out, HY.out] at HF
  go_enter Tryz.func231, Tryz.ntmps231
  go_wp2_with fail
  refine (ke s _ hs).mono ?_
  rintro e w' ⟨rfl, rfl⟩
  simp only [HX.out]
  go_wp2_with fail
  refine (ke t _ ht).mono ?_
  rintro e w' ⟨rfl, rfl⟩
  simp only [HY.out]
  go_wp2_with fail
 ·refine (Tryz.strings_Compare _ _ _).mono ?_
  rintro e w' ⟨rfl, rfl⟩
  go_wp2
  go_ret
  exact ⟨zn HF.out.symm, zpd _ _⟩
 ·go_ret
  exact ⟨zn HF.out.symm, zpd _ _⟩
 ·go_ret
  exact ⟨zn HF.out.symm, zpd _ _⟩
 ·refine (xw _ _ _).mono ?_
  rintro e w' ⟨rfl, hb⟩
  go_wp2
  go_ret
  exact ⟨zn HF.out.symm, hb⟩
end Go.Proofs.YtbikeahmldobkaaGreatDoor
