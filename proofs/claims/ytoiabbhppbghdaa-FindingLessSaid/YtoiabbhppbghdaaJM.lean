/-
  Slices of components; laws at guarded operations; a map of components.
-/
import Derived.Test.YtoiabbhppbghdaaJI
import Derived.Maps.OwnSet
import Derived.DeepKeys5
namespace Go.Proofs.Ytoiabbhppbghdaa
open Go.RowKit

/-- v is a slice of the components l -/
def Comps (w : World) (v : Value) (l : List V.Comp) : Prop :=
  ∃ a cap, v = .slice a l.length cap ∧ ∀ j (h : j < l.length), CompWf l[j] ∧ ∃ b off, a = some ⟨b, off, none⟩ ∧ b < w.heap.size ∧ w.rangeAt b (off + j * 36) (cellsL l[j])
theorem Comps.nil (w : World) : Comps w (.slice none 0 0) [] := ⟨none, 0, rfl, fun j h => by simp at h⟩
theorem Comps.below {w w' : World} {v : Value} {l : List V.Comp} (h : Comps w v l) (hb : Below w.heap.size w w') : Comps w' v l := by
  obtain ⟨a, cap, e, hc⟩ := h
  refine ⟨a, cap, e, fun j hj => ?_⟩
  obtain ⟨hw, b, off, ea, hlt, hr⟩ := hc j hj
  exact ⟨hw, b, off, ea, Nat.lt_of_lt_of_le hlt hb.size, rangeAt_below hr hb⟩
theorem Comps.at {w : World} {a : Option Addr} {n cap : Nat} {l : List V.Comp} (h : Comps w (.slice a n cap) l) (j : Nat) (hj : j < l.length) :
    CompWf l[j] ∧ ∃ b off, a = some ⟨b, off, none⟩ ∧ b < w.heap.size ∧ w.rangeAt b (off + j * 36) (cellsL l[j]) := by
  obtain ⟨a', c, e, hc⟩ := h
  cases e
  exact hc j hj

/-- at an operation whose guard holds -/
theorem wl_wanted {P : Program} {ops : Array Oper} {rest : List Oper} {o : Oper} {a : Act} {w : World} {Q : Exit → Act → World → Prop} (hw : Region.wanted o (yielded ops a.tmps) = true)
    (h : ∀ K : Act → World → Prop, (∀ a w, wpList P ops Q rest a w → K a w) → o.wp P a w K Q) : wpList P ops Q (o :: rest) a w :=
  wpList_step fun K hK => by rw [if_pos hw]; exact h K hK
theorem wg_load {ops : Array Oper} {rest : List Oper} {o : Oper} {a : Act} {w : World} {Q : Exit → Act → World → Prop} (hw : Region.wanted o (yielded ops a.tmps) = true) (x : Operand) (ho : o.op = .load 47 x)
    (b off : Nat) (hx : a.eval x = .pointer (some ⟨b, off, none⟩)) (c : V.Comp) (hc : CompWf c) (hr : w.rangeAt b off (cellsL c))
    (h : wpList Try.prog ops Q rest (a.put o.dst (.agg (ccells c))) w) : wpList Try.prog ops Q (o :: rest) a w :=
  wl_wanted hw fun K hK => by
    obtain ⟨d, hu, hd⟩ := compRow
    exact wp_load_mid _ x ho b off hx (cellsL c) d hr hu hd (by rw [compInfo]; have := hc.size; unfold ccells at this; simp at this; rw [this]) (hK _ _ h)

/-- the map of components -/
def CMap (w : World) (b n : Nat) (l : List V.Comp) : Prop :=
  ∃ D : DataW Unit, w.ownsMap Try.prog 47 (Go.plainElem Try.prog 4) b n D ∧ (∃ es, D = .map es) ∧ ∀ c, CompWf c → D.atKey (.string (keyBytes (compLits c))) (.lit (.bool false)) = .lit (.bool (decide (c ∈ l)))
set_option maxRecDepth 100000 in
theorem cmap_law : Go.Maps.Keyed Try.prog 47 := by
  refine Go.Maps.Keyed.of_law (deep_law_gate laidOutK ?_ ?_ ?_ ?_)
  · exact of_decide_eq_true (by kernel_rfl)
  · exact of_decide_eq_true (by kernel_rfl)
  · kernel_rfl
  · kernel_rfl
set_option maxRecDepth 100000 in
theorem zero_bool (w : World) : (zeroValue 4).run Try.prog w = .ok (.bool false) w := by kernel_rfl
theorem CMap.made (w : World) : CMap (w.alloc (.map #[] 0)) w.heap.size 0 [] :=
  ⟨.map [], World.ownsMap_made _ _ _ _, ⟨[], rfl⟩, fun c _ => by simp [DataW.atKey]⟩
theorem CMap.kept {w w' : World} {b n : Nat} {l : List V.Comp} (h : CMap w b n l) (hb : Below w.heap.size w w') : CMap w' b n l := by
  obtain ⟨D, h1, h2, h3⟩ := h
  exact ⟨D, h1.kept (row := none) ⟨hb.os, hb.tape, hb.output, hb.size, fun k hk _ => hb.block k hk⟩ (by simp), h2, h3⟩
theorem keyBytes_inj {a b : V.Comp} (ha : CompWf a) (hb : CompWf b) (h : Lit.string (keyBytes (compLits a)) = .string (keyBytes (compLits b))) : a = b :=
  compLits_inj (keyLits_inj (comp_lits 0 ha) (comp_lits 0 hb) (by simpa using h))
set_option maxRecDepth 100000 in
theorem elem_bool {v : Value} {z : DataW Unit × List MemPlace} (h : Go.plainElem Try.prog 4 v = some z) : ∃ x, v = .bool x ∧ z = (.lit (.bool x), []) := by
  unfold Go.plainElem at h
  rw [Try.underlying4] at h
  cases v <;> simp at h
  exact ⟨_, rfl, h.symm⟩
set_option maxRecDepth 100000 in
/-- a look-up -/
theorem CMap.look {w : World} {b n : Nat} {l : List V.Comp} (h : CMap w b n l) {c : V.Comp} (hc : CompWf c) : (Instr.lookup 87 (.map (some b)) (.agg (ccells c)) false).run Try.prog w = .ok (.bool (decide (c ∈ l))) w := by
  obtain ⟨D, h1, _, h3⟩ := h
  obtain ⟨v, ps, hrun, hv⟩ := h1.lookup cmap_law Try.underlying87 (zero_bool w) (Go.plainElem_bool Try.underlying4 false) (key_comp hc)
  obtain ⟨x, rfl, hz⟩ := elem_bool hv
  rw [hrun]
  have := (Prod.mk.inj hz).1
  rw [h3 c hc] at this
  injection this with this
  injection this with this
  rw [this]
set_option maxRecDepth 100000 in
theorem wg_lookup {ops : Array Oper} {rest : List Oper} {o : Oper} {a : Act} {w : World} {Q : Exit → Act → World → Prop} (hw : Region.wanted o (yielded ops a.tmps) = true) (m x : Operand) (ho : o.op = .lookup 87 m x false)
    (b n : Nat) (l : List V.Comp) (hm : a.eval m = .map (some b)) (hown : CMap w b n l) (c : V.Comp) (hc : CompWf c) (hx : a.eval x = .agg (ccells c))
    (h : wpList Try.prog ops Q rest (a.put o.dst (.bool (decide (c ∈ l)))) w) : wpList Try.prog ops Q (o :: rest) a w :=
  wl_wanted hw fun K hK => by
    unfold Oper.wp
    simp [execOp, ho, hm, hx, hown.look hc, Result.andThen]
    exact hK _ _ h
set_option maxRecDepth 100000 in
/-- an entry more -/
theorem wl_update {ops : Array Oper} {rest : List Oper} {o : Oper} {a : Act} {w : World} {Q : Exit → Act → World → Prop} (hg : o.guard = none) (m x v : Operand) (ho : o.op = .mapUpdate 87 m x v)
    (b n : Nat) (l : List V.Comp) (hm : a.eval m = .map (some b)) (hown : CMap w b n l) (hn : n < maxLen) (c : V.Comp) (hc : CompWf c) (hx : a.eval x = .agg (ccells c)) (hv : a.eval v = .bool true)
    (h : ∀ w', CMap w' b (n + 1) (l ++ [c]) → w.grownBy w' (some b) → wpList Try.prog ops Q rest (a.put o.dst undef) w') : wpList Try.prog ops Q (o :: rest) a w := by
  obtain ⟨D, h1, ⟨es, he⟩, h3⟩ := hown
  refine wpList_mapUpdate_own w hg m x v 87 ho 47 4 cmap_law Try.underlying87 (Go.plainElem Try.prog 4) b n D hm h1 hn _ _ _ hx hv (key_comp hc) (.lit (.bool true)) [] (Go.plainElem_bool Try.underlying4 true) ?_
  intro w' g1 g2
  refine h w' ⟨_, g1, Go.Maps.IsMap.put ⟨es, he⟩ _ _, fun c' hc' => ?_⟩ g2
  by_cases e : c' = c
  · subst e
    rw [Go.Maps.atKey_put_same (k := Lit.string (keyBytes (compLits c'))) ⟨es, he⟩ trivial]
    simp
  · rw [Go.Maps.atKey_put_other (fun g => e (keyBytes_inj hc' hc g)), h3 c' hc']
    congr 2
    simp [e]
end Go.Proofs.Ytoiabbhppbghdaa
