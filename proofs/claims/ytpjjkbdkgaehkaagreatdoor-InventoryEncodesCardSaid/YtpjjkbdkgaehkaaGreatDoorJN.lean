/-
  Walks: an inventory of no components is valid; the check of the laws on inventories.
  Slices of components; laws at guarded operations; a map of components.
  Walk: the maker of components.
  Rows of components of one's own: how they read, an append; laws in regions that only read.
  Components as values, flat.
  Plain: merging lists of components.
  Walk: inventory.Valid, of any inventory.
-/
import Derived.Test.YtpjjkbdkgaehkaaGreatDoorJD
import Derived.Test.YtpjjkbdkgaehkaaGreatDoorJK
import Derived.Test.YtpjjkbdkgaehkaaGreatDoorJP
import Derived.Maps.Own
import Derived.Maps.OwnSet
import Derived.DeepKeys5
import Derived.Laws.AppendOwn
import Derived.OwnWalk
import Derived.Still
namespace Go.Proofs.YtpjjkbdkgaehkaaGreatDoor
open Go.RowKit

/-- the cells of an inventory -/
def icells (d : List Int) (time : Int) (v : Value) : Array Value := (dcellsL d ++ [.int .i64 time, v]).toArray
theorem icells_range (w : World) (t : TypeId) {d : List Int} (time : Int) (v : Value) (hd : d.length = 32) : (w.alloc (.cells (icells d time v) t)).rangeAt w.heap.size 0 (dcellsL d) := fun j u hj => by
  rw [Nat.zero_add, World.cell?_alloc_new]
  unfold icells
  have : j < (dcellsL d).length := (List.getElem?_eq_some_iff.1 hj).1
  rw [List.getElem?_toArray, List.getElem?_append_left this]
  exact hj

set_option maxRecDepth 100000 in
set_option maxHeartbeats 1600000 in
theorem validEmpty_any (w : World) :
    Calls Tryz.prog 9 #[.agg (icells (dig1 1) 0 (.slice none 0 0))] w fun e w' => e = .returned (.bool true) ∧ Below w.heap.size w w' := by
  have hd : (dig1 1).length = 32 := rfl
  have h32 : (icells (dig1 1) 0 (.slice none 0 0))[32]? = some (.int .i64 0) := rfl
  have h33 : (icells (dig1 1) 0 (.slice none 0 0))[33]? = some (.slice none 0 0) := rfl
  have HR := Lib.hid (icells_range w 26 0 (.slice none 0 0) hd)
  have HI : Hid ((Tryz.prog.info? 23).map (·.size) = some (dcellsL (dig1 1)).length) := Lib.hid digInfo
  have HQ : Hid (∀ w, (Op.equalIn 10000 23 (.agg (dcells (dig1 1))) (.agg (dcells zero32))).run Tryz.prog w = .ok false w) := Lib.hid (fun w => by
    rw [eq_dig rfl (by decide) rfl (by decide) w]; rfl)
  have hmm := @run_makeMap Tryz.prog
  clear hd
  generalize hic : icells (dig1 1) 0 (.slice none 0 0) = ic at *
  clear hic
  go_enter Tryz.func9, Tryz.ntmps9
  go_wp2_with (first | (refine wpList_load_mid rfl 23 _ rfl w.heap.size 0 rfl (dcellsL (dig1 1)) _ HR.out Tryz.underlying23 rfl HI.out ?_) | (refine wl_eql rfl 23 23 _ _ rfl (dcells (dig1 1)) (dcells zero32) rfl rfl guard_dig false (HQ.out _) ?_) | fail)
  go_loop [30] (fun k => k = .int .i64 ((0 : Nat) : Int)) (fun _ => 0)
  case atStart => exact rfl
  case round =>
    subst hrel
    have hno : ¬ ((0 : Nat) : Int) < ((0 : Nat) : Int) := by omega
    go_wp2
    go_ret
    exact ⟨ret_bool rfl, ((Below.refl _ w).alloc (Nat.le_refl _) _).alloc (by simp) _⟩

def awakeC : V.Comp := ⟨-1, 1, [122, 108, 105, 98], [49, 46, 50, 46, 51], zero32⟩
def awakeP : V.Bs := [112, 107, 103, 58, 115, 101, 109, 118, 101, 114, 47, 122, 108, 105, 98, 64, 49, 46, 50, 46, 51]
theorem awakeC_wf : CompWf awakeC := ⟨by decide, by decide, by decide, by decide, by decide, by decide⟩
theorem awakeC_purl : V.purlR awakeC = (awakeP, 0) := by decide +kernel

set_option maxRecDepth 100000 in
set_option maxHeartbeats 1600000 in
theorem awake19_any (w : World) (hm : MaxOk w) :
    Calls Tryz.prog 11 #[] w fun e w' => e = .returned (.bool true) ∧ Below w.heap.size w w' := by
  have HM := Lib.hid hm
  clear hm
  go_enter Tryz.func11, Tryz.ntmps11
  go_wp2_with fail
  refine (purl_any awakeC _ HM.out awakeC_wf).mono ?_
  rintro e w1 ⟨rfl, hb1⟩
  have HB1 := Lib.hid hb1
  clear hb1
  rw [awakeC_purl]
  go_wp2_with fail
  refine (validEmpty_any _).mono ?_
  rintro e w2 ⟨rfl, hb2⟩
  have HB2 := Lib.hid (HB1.out.trans (hb2.mono HB1.out.size))
  clear hb2
  go_wp2
  go_ret
  exact ⟨ret_bool rfl, HB2.out⟩
end Go.Proofs.YtpjjkbdkgaehkaaGreatDoor
namespace Go.Proofs.YtpjjkbdkgaehkaaGreatDoor
open Go.RowKit

/-- v is a slice of the components l -/
def Comps (w : World) (v : Value) (l : List V.Comp) : Prop :=
  ∃ a cap, v = .slice a l.length cap ∧ ∀ j (h : j < l.length), CompWf l[j] ∧ ∃ b off, a = some ⟨b, off, none⟩ ∧ b < w.heap.size ∧ w.rangeAt b (off + j * 36) (cellsL l[j])
theorem Comps.nil (w : World) : Comps w (.slice none 0 0) [] := ⟨none, 0, rfl, fun j h => by simp at h⟩
theorem Comps.below {w w' : World} {v : Value} {l : List V.Comp} (h : Comps w v l) (hb : Below w.heap.size w w') : Comps w' v l := by
  obtain ⟨a, cap, e, hc⟩ := h
  refine ⟨a, cap, e, fun j hj => ?_⟩
  obtain ⟨hw, b, off, ea, hlt, hr⟩ := hc j hj
  exact ⟨hw, b, off, ea, Nat.lt_of_lt_of_le hlt hb.size, rangeAt_below hr hb⟩
theorem Comps.at {w : World} {a : Option Addr} {n cap : Nat} {l : List V.Comp} (h : Comps w (.slice a n cap) l) (j : Nat) (hj : j < l.length) :
    CompWf l[j] ∧ ∃ b off, a = some ⟨b, off, none⟩ ∧ b < w.heap.size ∧ w.rangeAt b (off + j * 36) (cellsL l[j]) := by
  obtain ⟨a', c, e, hc⟩ := h
  cases e
  exact hc j hj

/-- at an operation whose guard holds -/
theorem wl_wanted {P : Program} {ops : Array Oper} {rest : List Oper} {o : Oper} {a : Act} {w : World} {Q : Exit → Act → World → Prop} (hw : Region.wanted o (yielded ops a.tmps) = true)
    (h : ∀ K : Act → World → Prop, (∀ a w, wpList P ops Q rest a w → K a w) → o.wp P a w K Q) : wpList P ops Q (o :: rest) a w :=
  wpList_step fun K hK => by rw [if_pos hw]; exact h K hK
theorem wg_load {ops : Array Oper} {rest : List Oper} {o : Oper} {a : Act} {w : World} {Q : Exit → Act → World → Prop} (hw : Region.wanted o (yielded ops a.tmps) = true) (x : Operand) (ho : o.op = .load 66 x)
    (b off : Nat) (hx : a.eval x = .pointer (some ⟨b, off, none⟩)) (c : V.Comp) (hc : CompWf c) (hr : w.rangeAt b off (cellsL c))
    (h : wpList Tryz.prog ops Q rest (a.put o.dst (.agg (ccells c))) w) : wpList Tryz.prog ops Q (o :: rest) a w :=
  wl_wanted hw fun K hK => by
    obtain ⟨d, hu, hd⟩ := compRow
    exact wp_load_mid _ x ho b off hx (cellsL c) d hr hu hd (by rw [compInfo]; have := hc.size; unfold ccells at this; simp at this; rw [this]) (hK _ _ h)

/-- the map of components -/
def CMap (w : World) (b n : Nat) (l : List V.Comp) : Prop :=
  ∃ D : DataW Unit, w.ownsMap Tryz.prog 66 (Go.plainElem Tryz.prog 4) b n D ∧ (∃ es, D = .map es) ∧ ∀ c, CompWf c → D.atKey (.string (keyBytes (compLits c))) (.lit (.bool false)) = .lit (.bool (decide (c ∈ l)))
set_option maxRecDepth 100000 in
theorem cmap_law : Go.Maps.Keyed Tryz.prog 66 := by
  refine Go.Maps.Keyed.of_law (deep_law_gate laidOutK ?_ ?_ ?_ ?_)
  · exact of_decide_eq_true (by kernel_rfl)
  · exact of_decide_eq_true (by kernel_rfl)
  · kernel_rfl
  · kernel_rfl
set_option maxRecDepth 100000 in
theorem zero_bool (w : World) : (zeroValue 4).run Tryz.prog w = .ok (.bool false) w := by kernel_rfl
theorem CMap.made (w : World) : CMap (w.alloc (.map #[] 0)) w.heap.size 0 [] :=
  ⟨.map [], World.ownsMap_made _ _ _ _, ⟨[], rfl⟩, fun c _ => by simp [DataW.atKey]⟩
theorem CMap.kept {w w' : World} {b n : Nat} {l : List V.Comp} (h : CMap w b n l) (hb : Below w.heap.size w w') : CMap w' b n l := by
  obtain ⟨D, h1, h2, h3⟩ := h
  exact ⟨D, h1.kept (row := none) ⟨hb.os, hb.tape, hb.output, hb.size, fun k hk _ => hb.block k hk⟩ (by simp), h2, h3⟩
theorem keyBytes_inj {a b : V.Comp} (ha : CompWf a) (hb : CompWf b) (h : Lit.string (keyBytes (compLits a)) = .string (keyBytes (compLits b))) : a = b :=
  compLits_inj (keyLits_inj (comp_lits 0 ha) (comp_lits 0 hb) (by simpa using h))
set_option maxRecDepth 100000 in
theorem elem_bool {v : Value} {z : DataW Unit × List MemPlace} (h : Go.plainElem Tryz.prog 4 v = some z) : ∃ x, v = .bool x ∧ z = (.lit (.bool x), []) := by
  unfold Go.plainElem at h
  rw [Tryz.underlying4] at h
  cases v <;> simp at h
  exact ⟨_, rfl, h.symm⟩
set_option maxRecDepth 100000 in
/-- a look-up -/
theorem CMap.look {w : World} {b n : Nat} {l : List V.Comp} (h : CMap w b n l) {c : V.Comp} (hc : CompWf c) : (Instr.lookup 68 (.map (some b)) (.agg (ccells c)) false).run Tryz.prog w = .ok (.bool (decide (c ∈ l))) w := by
  obtain ⟨D, h1, _, h3⟩ := h
  obtain ⟨v, ps, hrun, hv⟩ := h1.lookup cmap_law Tryz.underlying68 (zero_bool w) (Go.plainElem_bool Tryz.underlying4 false) (key_comp hc)
  obtain ⟨x, rfl, hz⟩ := elem_bool hv
  rw [hrun]
  have := (Prod.mk.inj hz).1
  rw [h3 c hc] at this
  injection this with this
  injection this with this
  rw [this]
set_option maxRecDepth 100000 in
theorem wg_lookup {ops : Array Oper} {rest : List Oper} {o : Oper} {a : Act} {w : World} {Q : Exit → Act → World → Prop} (hw : Region.wanted o (yielded ops a.tmps) = true) (m x : Operand) (ho : o.op = .lookup 68 m x false)
    (b n : Nat) (l : List V.Comp) (hm : a.eval m = .map (some b)) (hown : CMap w b n l) (c : V.Comp) (hc : CompWf c) (hx : a.eval x = .agg (ccells c))
    (h : wpList Tryz.prog ops Q rest (a.put o.dst (.bool (decide (c ∈ l)))) w) : wpList Tryz.prog ops Q (o :: rest) a w :=
  wl_wanted hw fun K hK => by
    unfold Oper.wp
    simp [execOp, ho, hm, hx, hown.look hc, Result.andThen]
    exact hK _ _ h
set_option maxRecDepth 100000 in
/-- an entry more -/
theorem wl_update {ops : Array Oper} {rest : List Oper} {o : Oper} {a : Act} {w : World} {Q : Exit → Act → World → Prop} (hg : o.guard = none) (m x v : Operand) (ho : o.op = .mapUpdate 68 m x v)
    (b n : Nat) (l : List V.Comp) (hm : a.eval m = .map (some b)) (hown : CMap w b n l) (hn : n < maxLen) (c : V.Comp) (hc : CompWf c) (hx : a.eval x = .agg (ccells c)) (hv : a.eval v = .bool true)
    (h : ∀ w', CMap w' b (n + 1) (l ++ [c]) → w.grownBy w' (some b) → wpList Tryz.prog ops Q rest (a.put o.dst undef) w') : wpList Tryz.prog ops Q (o :: rest) a w := by
  obtain ⟨D, h1, ⟨es, he⟩, h3⟩ := hown
  refine wpList_mapUpdate_own w hg m x v 68 ho 66 4 cmap_law Tryz.underlying68 (Go.plainElem Tryz.prog 4) b n D hm h1 hn _ _ _ hx hv (key_comp hc) (.lit (.bool true)) [] (Go.plainElem_bool Tryz.underlying4 true) ?_
  intro w' g1 g2
  refine h w' ⟨_, g1, Go.Maps.IsMap.put ⟨es, he⟩ _ _, fun c' hc' => ?_⟩ g2
  by_cases e : c' = c
  · subst e
    rw [Go.Maps.atKey_put_same (k := Lit.string (keyBytes (compLits c'))) ⟨es, he⟩ trivial]
    simp
  · rw [Go.Maps.atKey_put_other (fun g => e (keyBytes_inj hc' hc g)), h3 c' hc']
    congr 2
    simp [e]
end Go.Proofs.YtpjjkbdkgaehkaaGreatDoor
namespace Go.Proofs.YtpjjkbdkgaehkaaGreatDoor
open Go.RowKit

def compNames : List V.Bs := [[122, 108, 105, 98], [115, 115, 108], [108, 105, 98, 115, 47, 112, 110, 103], [97]]
theorem compNames_ok : ∀ x ∈ compNames, V.pathOk x = true := by decide +kernel

/-- a component that was made -/
structure Made (par : Int) (c : V.Comp) : Prop where
  wf : CompWf c
  ok : V.compOk c = true
  par : c.par = par

def CompPost (b k : Nat) (par : Int) (w : World) (e : Ending) (w' : World) : Prop :=
  ∃ c : V.Comp, Made par c ∧ e = .returned (.agg (ccells c)) ∧ Tape w' b (k + 5) ∧ w.grownBy w' (some b)

theorem ccells_set3 (c : V.Comp) (v : V.Bs) : (ccells c).setIfInBounds 3 (.string ⟨v.toArray⟩) = ccells { c with ver := v } := by
  unfold ccells cellsL
  simp

set_option maxRecDepth 100000 in
set_option maxHeartbeats 3200000 in
theorem comp_any (b k : Nat) (par : Int) (w : World) (h : Tape w b k) (hk : k ≤ 100000) (hp : (Lit.int .i64 par).wf = true) :
    Calls Tryz.prog 83 #[.pointer (some ⟨b, 0, none⟩), .int .i64 par] w (CompPost b k par w) := by
  have HT := Lib.hid h
  have HP := Lib.hid hp
  have hbw := h.lt
  clear h hp
  go_enter Tryz.func83, Tryz.ntmps83
  go_wp2_with fail
  rw [zero_cells]
  obtain ⟨W0, hW0⟩ : ∃ W0, W0 = w.alloc (.cells (ccells zeroC) 66) := ⟨_, rfl⟩
  have hg0 : W0.heap[w.heap.size]? = some (.cells (ccells zeroC) 66 (0, 0)) := by rw [hW0]; exact heap_alloc_new w _
  have hz0 : W0.heap.size = w.heap.size + 1 := by rw [hW0]; simp
  have hb0 : Below w.heap.size w W0 := by rw [hW0]; exact (Below.refl _ w).alloc (Nat.le_refl _) _
  rw [← hW0]
  clear hW0
  refine (next_any b k 3 _ (HT.out.below hb0) (by omega) (by omega) (by omega)).mono ?_
  rintro e w1 ⟨r, hr, rfl, ht1, hg1⟩
  have HG1 := Lib.hid (World.grownBy.trans (below_grown hb0 (some b)) hg1)
  have HT1 := Lib.hid ht1
  have hz1 : w.heap.size < w1.heap.size := Nat.lt_of_lt_of_le (by omega) hg1.size
  have HR1 : Hid (w1.heap[w.heap.size]? = some (.cells (ccells zeroC) 66 (0, 0))) := Lib.hid ((hg1.block _ (by omega) (by simp; omega)).trans hg0)
  clear hg0 hz0 hb0 ht1 hg1
  go_wp2_with fail
  refine (pick_any b (k + 1) _ ⟨w1.heap.size, 0, none⟩ 4 compNames (HT1.out.below ((Below.refl _ w1).alloc (Nat.le_refl _) _)) (by omega) (by decide) (by decide) (by simp; omega) rfl (fun j hj => by
      rw [World.cell?_alloc_new, Nat.zero_add]
      have : ∀ j : Fin 4, (#[Value.string ⟨#[122, 108, 105, 98]⟩, Value.string ⟨#[115, 115, 108]⟩, Value.string ⟨#[108, 105, 98, 115, 47, 112, 110, 103]⟩, Value.string ⟨#[97]⟩])[j.val]? = some (Value.string ⟨(compNames.getD j.val []).toArray⟩) := by
        intro j; rcases j with ⟨j, hj⟩
        have h4 : j = 0 ∨ j = 1 ∨ j = 2 ∨ j = 3 := by omega
        rcases h4 with rfl | rfl | rfl | rfl <;> rfl
      exact this ⟨j, hj⟩)).mono ?_
  rintro e w2 ⟨x, hx, rfl, ht2, hg2⟩
  have hb1 : Below w1.heap.size w1 (w1.alloc (.cells #[Value.string ⟨#[122, 108, 105, 98]⟩, Value.string ⟨#[115, 115, 108]⟩, Value.string ⟨#[108, 105, 98, 115, 47, 112, 110, 103]⟩, Value.string ⟨#[97]⟩] 9)) := (Below.refl _ w1).alloc (Nat.le_refl _) _
  have hg12 := World.grownBy.trans (below_grown hb1 (some b)) hg2
  have HG2 := Lib.hid (World.grownBy.trans HG1.out hg12)
  have HT2 := Lib.hid ht2
  have hz2 : w.heap.size < w2.heap.size := Nat.lt_of_lt_of_le hz1 hg12.size
  have HR2 : Hid (w2.heap[w.heap.size]? = some (.cells (ccells zeroC) 66 (0, 0))) := Lib.hid ((hg12.block _ hz1 (by simp; omega)).trans HR1.out)
  have HX := Lib.hid (compNames_ok x hx)
  have hxl : x.length ≤ 200 := by
    have := compNames_ok x hx
    unfold V.pathOk at this
    simp only [Bool.and_eq_true, decide_eq_true_eq] at this
    exact this.1.1.2
  have hr3 : (1 : Int) + (r : Int) = 1 ∨ (1 : Int) + (r : Int) = 2 ∨ (1 : Int) + (r : Int) = 3 := by omega
  obtain ⟨n, hn⟩ : ∃ n, n = (1 : Int) + (r : Int) := ⟨_, rfl⟩
  rw [← hn] at hr3
  have HC1 : Hid (CompWf ⟨par, n, x, [], zero32⟩) := Lib.hid ⟨HP.out, by show (Lit.int .i64 n).wf = true; rcases hr3 with rfl | rfl | rfl <;> decide, by unfold maxLen; show x.length ≤ _; omega, (Nat.zero_le _ : ([] : V.Bs).length ≤ maxLen), (by decide : zero32.length = 32), (by decide : ∀ n ∈ zero32, (Lit.int .u8 n).wf = true)⟩
  have HR3 := Lib.hid hr3
  clear ht2 hg2 hb1 hg12 hx hr3 HR1 HT1 HG1
  have hcc1 : (ccells ⟨par, 1 + (r : Int), x, [], zero32⟩)[1]? = some (.int .i64 (1 + (r : Int))) := rfl
  have HC1' : Hid (CompWf ⟨par, 1 + (r : Int), x, [], zero32⟩) := Lib.hid (by rw [← hn]; exact HC1.out)
  have HSN : Hid (V.scheme n = true) := Lib.hid (by unfold V.scheme; rcases HR3.out with rfl | rfl | rfl <;> rfl)
  go_wp2_with (first | (refine wl_store rfl _ _ rfl _ _ rfl ⟨par, 1 + (r : Int), x, [], zero32⟩ HC1'.out rfl rfl ?_) | fail)
  rw [← hn]
  obtain ⟨W3, hW3⟩ : ∃ W3, W3 = w2.alloc (.cells (ccells ⟨par, n, x, [], zero32⟩) 66) := ⟨_, rfl⟩
  have hb3 : Below w2.heap.size w2 W3 := by rw [hW3]; exact (Below.refl _ w2).alloc (Nat.le_refl _) _
  have hgc3 : W3.heap[w2.heap.size]? = some (.cells (ccells ⟨par, n, x, [], zero32⟩) 66 (0, 0)) := by rw [hW3]; exact heap_alloc_new w2 _
  have hz3 : W3.heap.size = w2.heap.size + 1 := by rw [hW3]; simp
  rw [← hW3]
  clear hW3 hcc1
  refine (version_any b (k + 1 + 1) n W3 (HT2.out.below hb3) (by omega) HSN.out).mono ?_
  rintro e w4 ⟨v, hv, rfl, ht4, hg4⟩
  have hbw2 : b < w2.heap.size := by omega
  obtain ⟨C, hC⟩ : ∃ C, C = w2.heap.size := ⟨_, rfl⟩
  rw [← hC] at hgc3 hz3 hz2 hbw2 ⊢
  have hgc4 := (hg4.block C (by omega) (by simp; omega)).trans hgc3
  have HR4 : Hid (w4.heap[w.heap.size]? = some (.cells (ccells zeroC) 66 (0, 0))) := Lib.hid ((hg4.block _ (by omega) (by simp; omega)).trans ((hb3.block _ (by omega)).trans HR2.out))
  have hwC : w.heap.size ≤ C := by omega
  have hz4 : C < w4.heap.size := Nat.lt_of_lt_of_le (by omega) hg4.size
  have HG4 := Lib.hid (World.grownBy.trans (World.grownBy.trans HG2.out (below_grown hb3 (some b))) hg4)
  have HT4 := Lib.hid ht4
  have HV := Lib.hid hv
  have hc43 : w4.cell? ⟨C, 3, none⟩ = some (.string ⟨#[]⟩) := by rw [cell_of_row w4 C 3 _ _ _ hgc4]; rfl
  have hf43 : w4.frozen? ⟨C, 3, none⟩ = false := frozen_of_row w4 C 3 _ _ hgc4
  have hgc5 := heap_setCell_same w4 C 3 _ _ (.string ⟨v.toArray⟩) hgc4
  rw [ccells_set3] at hgc5
  simp only at hgc5
  have HGC5 := Lib.hid hgc5
  have HR5 : Hid ((w4.setCell ⟨C, 3, none⟩ (.string ⟨v.toArray⟩)).heap[w.heap.size]? = some (.cells (ccells zeroC) 66 (0, 0))) := Lib.hid (by rw [heap_setCell_other w4 _ _ _ (by simp; omega)]; exact HR4.out)
  have HT5 : Hid (Tape (w4.setCell ⟨C, 3, none⟩ (.string ⟨v.toArray⟩)) b (k + 1 + 1 + 1)) := Lib.hid (HT4.out.set (by omega) hc43 (by intro _ _ g; cases g))
  have HG5 : Hid (w.grownBy (w4.setCell ⟨C, 3, none⟩ (.string ⟨v.toArray⟩)) (some b)) := Lib.hid (grown_new HG4.out (set_grown w4 C 3 _) hwC)
  clear hb3 hgc3 hz3 hg4 hgc4 ht4 hv hgc5 HG2 HT2 HR2 hC
  have hz5 : C < (w4.setCell ⟨C, 3, none⟩ (.string ⟨v.toArray⟩)).heap.size := by simpa [World.setCell] using hz4
  go_wp2_with fail
  clear hc43 hf43
  generalize w4.setCell ⟨C, 3, none⟩ (.string ⟨v.toArray⟩) = w5 at *
  have HMD : Hid (∀ d : List Int, d.length = 32 → (∀ n ∈ d, (Lit.int .u8 n).wf = true) → Made par ⟨par, n, x, v, d⟩) := Lib.hid (fun d h1 h2 => ⟨⟨HC1.out.par, HC1.out.sch, HC1.out.name, by have := V.valid_short HV.out; unfold maxLen; show v.length ≤ _; omega, h1, h2⟩, by rw [V.compOk_iff]; exact ⟨HX.out, HV.out⟩, rfl⟩)
  refine (next_any b (k + 1 + 1 + 1) 3 _ HT5.out (by omega) (by omega) (by omega)).mono ?_
  rintro e w6 ⟨r2, hr2, rfl, ht6, hg6⟩
  have HT6 := Lib.hid ht6
  have HG6 := Lib.hid (World.grownBy.trans HG5.out hg6)
  have HGC6 := Lib.hid ((hg6.block C hz5 (by simp; omega)).trans HGC5.out)
  have HR6 := Lib.hid ((hg6.block _ (by omega) (by simp; omega)).trans HR5.out)
  have hz6 : C < w6.heap.size := Nat.lt_of_lt_of_le hz5 hg6.size
  clear ht6 hg6
  by_cases h0 : r2 = 0
  · subst h0
    go_wp2_with fail
    refine (sum_any b (k + 1 + 1 + 1 + 1) w6 HT6.out (by omega)).mono ?_
    rintro e w7 ⟨y, hy1, hy2, rfl, ht7, hg7⟩
    have hdl : (dig1 (y : Int)).length = 32 := rfl
    have hdw : ∀ n ∈ dig1 (y : Int), (Lit.int .u8 n).wf = true := by
      intro m hm
      have hy6 : y = 1 ∨ y = 2 ∨ y = 3 ∨ y = 4 ∨ y = 5 ∨ y = 6 := by omega
      rcases List.mem_cons.1 hm with rfl | hm
      · rcases hy6 with rfl | rfl | rfl | rfl | rfl | rfl <;> decide
      · rw [(List.mem_replicate.1 hm).2]; decide
    have HMM := Lib.hid (HMD.out (dig1 y) hdl hdw)
    have HM0 := Lib.hid (HMD.out zero32 (by decide) (by decide))
    have HGC7 := Lib.hid ((hg7.block C hz6 (by simp; omega)).trans HGC6.out)
    have HR7 := Lib.hid ((hg7.block _ (by omega) (by simp; omega)).trans HR6.out)
    have HT7 := Lib.hid ht7
    have HG7 := Lib.hid (World.grownBy.trans HG6.out hg7)
    have hz7 : C < w7.heap.size := Nat.lt_of_lt_of_le hz6 hg7.size
    have HTH := Lib.hid (there_dig HM0.out.wf HGC7.out)
    obtain ⟨W8, hW8⟩ : ∃ W8, W8 = w7.setCells C 4 (dcells (dig1 (y : Int))).toList := ⟨_, rfl⟩
    have HRD : Hid (W8.rangeAt C 0 (cellsL ⟨par, n, x, v, dig1 y⟩)) := Lib.hid (by rw [hW8]; exact range_dig HM0.out.wf HGC7.out hdl)
    have HR8 : Hid (W8.heap[w.heap.size]? = some (.cells (ccells zeroC) 66 (0, 0))) := Lib.hid (by rw [hW8, World.heap_setCells_other w7 C 4 _ (by omega) (by omega)]; exact HR7.out)
    have hgr8 : w7.grownBy W8 (some C) := by rw [hW8]; exact setCells_grown w7 C 4 _
    have HT8 := Lib.hid (HT7.out.grown hgr8 (by simp; omega) (by intro b' e; cases e; omega))
    have HG8 := Lib.hid (grown_new HG7.out hgr8 hwC)
    have HW8 := Lib.hid hW8
    have HDL := Lib.hid hdl
    clear ht7 hg7 hdl hdw hy1 hy2 hW8 hgr8
    go_wp2_with (first | (refine wl_load rfl _ rfl C 0 rfl ⟨par, n, x, v, dig1 y⟩ HMM.out.wf HRD.out ?_) | (refine wl_store_at rfl _ _ rfl w.heap.size _ _ HR8.out rfl ⟨par, n, x, v, dig1 y⟩ HMM.out.wf rfl zeroC_wf.size ?_) | (refine wl_store_dig rfl _ _ rfl C 4 (dig1 (y : Int)) HDL.out rfl rfl HTH.out W8 HW8.out ?_) | fail)
    refine bodyPost_ret (v := .agg (ccells ⟨par, n, x, v, dig1 y⟩)) ?_ rfl ⟨_, HMM.out, rfl, ?_, ?_⟩
    · exact results_one Tryz.results83 rfl (loadVar_row HMM.out.wf (setRow_heap _ w.heap.size _ _ _ _ HR8.out))
    · exact (HT8.out.grown (setRow_grown _ w.heap.size _) (by simp; omega) (by intro b' e; cases e; omega)).le (by omega)
    · exact grown_new HG8.out (setRow_grown _ _ _) (Nat.le_refl _)
  · have h0' : ((r2 : Int) == 0) = false := by rw [beq_eq_false_iff_ne]; omega
    have HMM := Lib.hid (HMD.out (zero32) (by decide) (by decide))
    go_wp2_with (first | (refine wl_load rfl _ rfl C 0 rfl ⟨par, n, x, v, zero32⟩ HMM.out.wf (range_row HGC6.out) ?_) | (refine wl_store_at rfl _ _ rfl w.heap.size _ _ HR6.out rfl ⟨par, n, x, v, zero32⟩ HMM.out.wf rfl zeroC_wf.size ?_) | fail)
    refine bodyPost_ret (v := .agg (ccells ⟨par, n, x, v, zero32⟩)) ?_ rfl ⟨_, HMM.out, rfl, ?_, ?_⟩
    · exact results_one Tryz.results83 rfl (loadVar_row HMM.out.wf (setRow_heap w6 w.heap.size _ _ _ _ HR6.out))
    · exact (HT6.out.grown (setRow_grown w6 w.heap.size _) (by simp; omega) (by intro b' e; cases e; omega)).le (by omega)
    · exact grown_new HG6.out (setRow_grown _ _ _) (Nat.le_refl _)
end Go.Proofs.YtpjjkbdkgaehkaaGreatDoor
namespace Go.Proofs.YtpjjkbdkgaehkaaGreatDoor
open Go.RowKit

theorem cellsL_len {c : V.Comp} (h : CompWf c) : (cellsL c).length = 36 := by have := h.size; unfold ccells at this; simpa using this
theorem flat_at : ∀ {l : List V.Comp}, (∀ c ∈ l, CompWf c) → ∀ j (h : j < l.length) i, i < 36 → (l.flatMap cellsL)[j * 36 + i]? = (cellsL l[j])[i]?
  | [], _, j, h, _, _ => by simp at h
  | c :: l, hw, 0, _, i, hi => by
    rw [List.flatMap_cons, List.getElem?_append_left (by rw [cellsL_len (hw c (by simp))]; omega)]
    simp
  | c :: l, hw, j + 1, h, i, hi => by
    have hl := cellsL_len (hw c (by simp))
    rw [List.flatMap_cons, List.getElem?_append_right (by rw [hl]; omega), hl, show (j + 1) * 36 + i - 36 = j * 36 + i by omega]
    rw [flat_at (fun d hd => hw d (by simp [hd])) j (by simpa using h) i hi]
    simp
theorem flat_len : ∀ {l : List V.Comp}, (∀ c ∈ l, CompWf c) → (l.flatMap cellsL).length = l.length * 36
  | [], _ => rfl
  | c :: l, hw => by
    rw [List.flatMap_cons, List.length_append, cellsL_len (hw c (by simp)), flat_len (fun d hd => hw d (by simp [hd])), List.length_cons]
    omega

/-- a row of components of one's own -/
def CRow (w : World) (N : Nat) (v : Value) (l : List V.Comp) : Prop := w.ownsRow N 66 36 v l.length (l.flatMap cellsL) ∧ ∀ c ∈ l, CompWf c
theorem CRow.nil (w : World) (N : Nat) : CRow w N (.slice none 0 0) [] := ⟨⟨rfl, .inl ⟨rfl, rfl⟩⟩, fun c hc => by simp at hc⟩
theorem CRow.comps {w : World} {N : Nat} {v : Value} {l : List V.Comp} (h : CRow w N v l) : Comps w v l := by
  obtain ⟨⟨hx, h⟩, hw⟩ := h
  rcases h with ⟨rfl, hn⟩ | ⟨g, cap, cur, rfl, hb, hg, hnc, hm, hsz, htk⟩
  · have := List.eq_nil_of_length_eq_zero hn
    subst this
    exact Comps.nil w
  · refine ⟨_, cap, rfl, fun j hj => ⟨hw _ (List.getElem_mem hj), g, 0, rfl, (Array.getElem?_eq_some_iff.1 hg).1, fun i u hu => ?_⟩⟩
    have hi : i < 36 := by
      have := (List.getElem?_eq_some_iff.1 hu).1
      rw [cellsL_len (hw _ (List.getElem_mem hj))] at this
      exact this
    rw [cell_of_row w g _ cur _ (0, 0) hg, show 0 + j * 36 + i = j * 36 + i by omega]
    have h1 := flat_at hw j hj i hi
    rw [hu, ← htk, List.getElem?_take] at h1
    split at h1
    · simpa using h1
    · cases h1
theorem CRow.kept {w w' : World} {N : Nat} {v : Value} {l : List V.Comp} (h : CRow w N v l) {row : Option Nat} (hg : w.grownBy w' row) (hr : ∀ b, row = some b → b < N) : CRow w' N v l := by
  obtain ⟨⟨hx, h⟩, hw⟩ := h
  refine ⟨⟨hx, ?_⟩, hw⟩
  rcases h with h | ⟨g, cap, cur, rfl, hb, hgg, rest⟩
  · exact .inl h
  · refine .inr ⟨g, cap, cur, rfl, hb, ?_, rest⟩
    rw [hg.block g (Array.getElem?_eq_some_iff.1 hgg).1 (fun e => by have := hr g e.symm; omega)]
    exact hgg
theorem CRow.block {w : World} {N : Nat} {v : Value} {l : List V.Comp} (h : CRow w N v l) : ∀ b, v.ownBlock = some b → N ≤ b := by
  obtain ⟨⟨_, h⟩, _⟩ := h
  intro b hb
  rcases h with ⟨rfl, _⟩ | ⟨g, cap, cur, rfl, hbb, _⟩
  · cases hb
  · simp [Value.ownBlock] at hb; omega

theorem compIE3 : ∃ ie z, Tryz.prog.info? 66 = some ie ∧ ie.zero = some z ∧ ie.size = 36 ∧ ie.bytes = 80 ∧ z.cells.size = 36 := by
  have h : (match Tryz.prog.info? 66 with | some i => i.size == 36 && (i.bytes == 80 && (match i.zero with | some z => z.cells.size == 36 | none => false)) | none => false) = true := by kernel_rfl
  cases hq : Tryz.prog.info? 66 with
  | none => rw [hq] at h; cases h
  | some i =>
    rw [hq] at h
    simp only [Bool.and_eq_true, beq_iff_eq] at h
    obtain ⟨h1, h2, h3⟩ := h
    cases hz : i.zero with
    | none => rw [hz] at h3; cases h3
    | some z =>
      rw [hz] at h3
      exact ⟨i, z, rfl, hz, h1, h2, by simpa using h3⟩
/-- at the operation: a component appended -/
theorem wl_appendC {ops : Array Oper} {rest : List Oper} {o : Oper} {a : Act} {w : World} {Q : Exit → Act → World → Prop} (hgd : o.guard = none) (s x : Operand)
    (ho : o.op = .call { callee := .builtin .append, args := #[s, x], argTypes := #[24, 24] })
    (N : Nat) (v : Value) (l : List V.Comp) (hs : a.eval s = v) (hown : CRow w N v l) (b : Nat) (c : V.Comp) (hc : CompWf c) (hx : a.eval x = .slice (some ⟨b, 0, none⟩) 1 1) (hr : w.rangeAt b 0 (cellsL c)) (hl : l.length ≤ 1000000) (hN : N ≤ w.heap.size)
    (h : ∀ v' w', CRow w' N v' (l ++ [c]) → w.grownBy w' v.ownBlock → wpList Tryz.prog ops Q rest (a.put o.dst v') w') : wpList Tryz.prog ops Q (o :: rest) a w := by
  obtain ⟨ie, z, hi, hz, h1, h2, h3⟩ := compIE3
  refine wpList_append_own w hgd s x 24 ho N 66 ie z 36 80 Tryz.underlying24 hi hz h1 h2 h3 (by decide) v l.length (l.flatMap cellsL) hs hown.1 ⟨b, 0, none⟩ 1 1 (cellsL c) hx (cellsL_len hc) ?_ ?_ (by unfold maxLen; omega) (by omega) hN ?_
  · intro j u hj
    rw [Addr.add_mid]
    exact hr j u hj
  · intro u hu
    have := Array.all_eq_true_iff_forall_mem.1 (comp_one (c := c)) u (by unfold ccells; simpa using hu)
    exact this
  · intro v' w' ho' hg _
    refine h v' w' ⟨?_, fun d hd => ?_⟩ hg
    · rw [List.length_append, List.flatMap_append]
      simpa using ho'
    · rcases List.mem_append.1 hd with hd | hd
      · exact hown.2 d hd
      · rw [List.mem_singleton.1 hd]; exact hc
/-- at the operation: one component as a slice of its own -/
theorem wl_build1 {ops : Array Oper} {rest : List Oper} {o : Oper} {a : Act} {w : World} {Q : Exit → Act → World → Prop} (hgd : o.guard = none) (x : Operand) (ho : o.op = .buildSlice 24 1 #[(0, x)])
    (c : V.Comp) (hc : CompWf c) (hx : a.eval x = .agg (ccells c))
    (h : wpList Tryz.prog ops Q rest (a.put o.dst (.slice (some ⟨w.heap.size, 0, none⟩) 1 1)) (w.alloc (.cells (ccells c) 66))) : wpList Tryz.prog ops Q (o :: rest) a w := by
  obtain ⟨ie, z, hie, hsz, hz⟩ := compIE
  refine wpList_buildSlice hgd _ 66 1 _ ho (ccells c) ie z Tryz.underlying24 hie hz (by rw [hsz]; decide) (by rw [hsz]; decide) ?_ h
  have := Great.fill_whole (s := 36) (by decide) [Value.agg (ccells c)] ((Array.range (1 * ie.size)).map (z.cells[· % z.cells.size]!)) (fun v hv => by
    rcases List.mem_cons.1 hv with rfl | hv
    · exact hc.size
    · cases hv) (by rw [hsz]; simp)
  rw [hsz] at this ⊢
  simp only [hx, List.map_toArray, List.map_cons, List.map_nil]
  exact this.trans (by simp [Value.cells])

/-- in a region that only reads: a component loaded -/
theorem still_load {ops : Array Oper} {o : Oper} {a : Act} {w : World} {K : Act → Prop} {E : Prop} (hw : Region.wanted o (yielded ops a.tmps) = true) (x : Operand) (ho : o.op = .load 66 x)
    (b off : Nat) (hx : a.eval x = .pointer (some ⟨b, off, none⟩)) (c : V.Comp) (hc : CompWf c) (hr : w.rangeAt b off (cellsL c)) (h : K (a.put o.dst (.agg (ccells c)))) :
    if Region.wanted o (yielded ops a.tmps) = true then o.still Tryz.prog a w K else E := by
  rw [if_pos hw]
  unfold Oper.still execOp
  simp only [ho, hx, Sem.run_bind, load_comp hc hr, Result.andThen_ok, Sem.run_pure, Oper.stillUpon_value]
  exact h
/-- .. an operation that yields -/
theorem still_val {P : Program} {ops : Array Oper} {o : Oper} {a : Act} {w : World} {K : Act → Prop} {E : Prop} (hw : Region.wanted o (yielded ops a.tmps) = true) (v : Value) (he : (execOp a.eval o).run P w = .ok (.value v) w) (h : K (a.put o.dst v)) :
    if Region.wanted o (yielded ops a.tmps) = true then o.still P a w K else E := by
  rw [if_pos hw]
  unfold Oper.still
  rw [he, Oper.stillUpon_value]
  exact h
/-- .. an operation whose guard does not hold -/
theorem still_skip {P : Program} {ops : Array Oper} {o : Oper} {a : Act} {w : World} {K : Act → Prop} (hw : Region.wanted o (yielded ops a.tmps) = false) (h : K (a.put o.dst undef)) :
    if Region.wanted o (yielded ops a.tmps) = true then o.still P a w K else K (a.put o.dst undef) := by
  rw [if_neg (by rw [hw]; decide)]
  exact h
/-- .. two components compared -/
theorem still_eql {ops : Array Oper} {o : Oper} {a : Act} {w : World} {K : Act → Prop} {E : Prop} (hw : Region.wanted o (yielded ops a.tmps) = true) (x y : Operand) (ho : o.op = .binOp .eql 66 x y 66)
    (c d : V.Comp) (hc : CompWf c) (hd : CompWf d) (hx : a.eval x = .agg (ccells c)) (hy : a.eval y = .agg (ccells d)) (h : K (a.put o.dst (.bool (decide (c = d))))) :
    if Region.wanted o (yielded ops a.tmps) = true then o.still Tryz.prog a w K else E := by
  rw [if_pos hw]
  unfold Oper.still execOp
  simp only [ho, hx, hy, Sem.run_bind, run_eqGuard_agg w .eql 66 x y _ _ guard_comp, Result.andThen_ok, run_eql_struct, eq_comp hc hd, Sem.run_pure, Oper.stillUpon_value]
  exact h

theorem compsTo_append (l : List V.Comp) (c : V.Comp) : ∀ k, k ≤ l.length → V.compsTo (l ++ [c]) k = V.compsTo l k
  | 0, _ => rfl
  | k + 1, h => by
    have h1 : k < l.length := by omega
    rw [V.compsTo_step h1, V.compsTo_step (l := l ++ [c]) (by simp; omega), compsTo_append l c k (by omega)]
    rw [List.getElem_append_left h1]
    unfold V.compAt
    rw [List.take_append_of_le_length (by omega)]
theorem compsTo_more {l : List V.Comp} {c : V.Comp} (h : V.compsTo l l.length = true) (h1 : V.compOk c = true) (h2 : -1 ≤ c.par) (h3 : c.par < l.length) (h4 : c ∉ l) : V.compsTo (l ++ [c]) (l ++ [c]).length = true := by
  rw [List.length_append, List.length_singleton, V.compsTo_step (by simp), compsTo_append l c _ (Nat.le_refl _), h]
  rw [List.getElem_append_right (Nat.le_refl _)]
  simp only [Nat.sub_self, List.getElem_cons_zero, Bool.true_and]
  rw [V.compAt_iff]
  refine ⟨h1, h2, h3, ?_⟩
  rw [List.take_append_of_le_length (Nat.le_refl _), List.take_length]
  exact h4
end Go.Proofs.YtpjjkbdkgaehkaaGreatDoor
namespace Go.Proofs.YtpjjkbdkgaehkaaGreatDoor
open Go.RowKit

theorem flat_get {l : List V.Comp} (hw : ∀ c ∈ l, CompWf c) {j : Nat} {u : Value} (h : (l.flatMap cellsL)[j]? = some u) : ∃ q, ∃ hq : q < l.length, ∃ i, i < 36 ∧ j = q * 36 + i ∧ (cellsL l[q])[i]? = some u := by
  have hj := (List.getElem?_eq_some_iff.1 h).1
  rw [flat_len hw] at hj
  have hq : j / 36 < l.length := by omega
  have he : j = j / 36 * 36 + j % 36 := by omega
  refine ⟨j / 36, hq, j % 36, by omega, he, ?_⟩
  rw [← flat_at hw _ hq _ (by omega), ← he]
  exact h
theorem Comps.wf {w : World} {v : Value} {l : List V.Comp} (h : Comps w v l) : ∀ c ∈ l, CompWf c := by
  intro c hc
  obtain ⟨a, cap, rfl, hat⟩ := h
  obtain ⟨j, hj, rfl⟩ := List.mem_iff_getElem.1 hc
  exact (hat j hj).1
/-- the place of a component, -1 if there is none -/
def ixOf (l : List V.Comp) (c : V.Comp) : Int := if c ∈ l then (l.idxOf c : Nat) else -1
theorem ixOf_none {l : List V.Comp} {c : V.Comp} (h : c ∉ l) : ixOf l c = -1 := by unfold ixOf; rw [if_neg h]
theorem ixOf_at {l : List V.Comp} {k : Nat} (hk : k < l.length) (h : l[k] ∉ l.take k) : ixOf l l[k] = k := by
  unfold ixOf
  rw [if_pos (List.getElem_mem hk)]
  congr 1
  have e : l = l.take k ++ l.drop k := (List.take_append_drop k l).symm
  have h1 : l.idxOf l[k] = (l.take k ++ l.drop k).idxOf l[k] := by rw [← e]
  rw [h1, List.idxOf_append, if_neg h, List.drop_eq_getElem_cons hk, List.idxOf_cons_self]
  simp; omega
end Go.Proofs.YtpjjkbdkgaehkaaGreatDoor
namespace Go.Proofs.YtpjjkbdkgaehkaaGreatDoor
open Go.RowKit

namespace V
/-- a component whose container has moved -/
def moved (st : List Int) (c : Comp) : Comp := if 0 ≤ c.par then { c with par := st.getD c.par.toNat 0 } else c
def mStep (s : List Comp × List Int) (c : Comp) : List Comp × List Int :=
  if moved s.2 c ∈ s.1 then (s.1, s.2 ++ [ixOf s.1 (moved s.2 c)]) else (s.1 ++ [moved s.2 c], s.2 ++ [(s.1.length : Int)])
def mergeTo (a b : List Comp) (k : Nat) : List Comp × List Int := (b.take k).foldl mStep (a, [])
def mergeL (a b : List Comp) : List Comp := (mergeTo a b b.length).1
theorem mergeTo_zero (a b : List Comp) : mergeTo a b 0 = (a, []) := rfl
theorem mergeTo_step {a b : List Comp} {k : Nat} (h : k < b.length) : mergeTo a b (k + 1) = mStep (mergeTo a b k) b[k] := by
  unfold mergeTo
  rw [List.take_succ_eq_append_getElem h, List.foldl_append]
  rfl
theorem mergeTo_len {a b : List Comp} : ∀ k, k ≤ b.length → (mergeTo a b k).2.length = k
  | 0, _ => rfl
  | k + 1, h => by
    rw [mergeTo_step h]
    unfold mStep
    split
    · simp [mergeTo_len (a := a) (b := b) k (by omega)]
    · simp [mergeTo_len (a := a) (b := b) k (by omega)]
theorem mergeTo_out {a b : List Comp} : ∀ k, k ≤ b.length → (mergeTo a b k).1.length ≤ a.length + k
  | 0, _ => by simp [mergeTo_zero]
  | k + 1, h => by
    have := mergeTo_out (a := a) (b := b) k (by omega)
    rw [mergeTo_step h]
    unfold mStep
    split
    · show (mergeTo a b k).1.length ≤ _
      omega
    · show ((mergeTo a b k).1 ++ _).length ≤ _
      simp; omega
theorem ixOf_mem {l : List Comp} {c : Comp} (h : c ∈ l) : ∃ m : Nat, ixOf l c = m ∧ ∃ hm : m < l.length, l[m] = c := by
  have h2 := List.idxOf_lt_length_iff.2 h
  refine ⟨l.idxOf c, by unfold ixOf; rw [if_pos h], h2, ?_⟩
  exact List.getElem_idxOf h2
/-- every place so far is one of the list's -/
theorem mergeTo_st {a b : List Comp} : ∀ k, k ≤ b.length → ∀ x ∈ (mergeTo a b k).2, ∃ m : Nat, x = m ∧ m < (mergeTo a b k).1.length
  | 0, _ => fun x hx => by simp [mergeTo_zero] at hx
  | k + 1, h => by
    have ih := mergeTo_st (a := a) (b := b) k (by omega)
    intro x hx
    rw [mergeTo_step h] at hx ⊢
    unfold mStep at hx ⊢
    split at hx
    · rename_i hm
      rw [if_pos hm]
      rcases List.mem_append.1 hx with hx | hx
      · exact ih x hx
      · obtain ⟨m, h1, h2, _⟩ := ixOf_mem hm
        rw [List.mem_singleton.1 hx]
        exact ⟨m, h1, h2⟩
    · rename_i hm
      rw [if_neg hm]
      rcases List.mem_append.1 hx with hx | hx
      · obtain ⟨m, h1, h2⟩ := ih x hx
        exact ⟨m, h1, by simp; omega⟩
      · rw [List.mem_singleton.1 hx]
        exact ⟨_, rfl, by simp⟩
theorem invOk_parts {d : List Int} {t : Int} {l : List Comp} (h : invOk d t l = true) : compsTo l l.length = true ∧ l.length ≤ 128 ∧ 0 ≤ t ∧ t ≤ 1099511627776 := by
  unfold invOk headOk at h
  simp only [Bool.and_eq_true, decide_eq_true_eq] at h
  obtain ⟨⟨_, h1, h2, h3⟩, h4⟩ := h
  exact ⟨h4, h3, h1, h2⟩
/-- which error merging returns -/
def mergeErr (d : List Int) (t : Int) (l : List Comp) (d' : List Int) (t' : Int) (l' : List Comp) : Int :=
  if invOk d t l = true ∧ invOk d' t' l' = true then (if d = d' then (if 128 < (mergeL l l').length then 3 else 0) else 9) else 1
/-- digest, time and components of what it returns -/
def mergeVal (d : List Int) (t : Int) (l : List Comp) (d' : List Int) (t' : Int) (l' : List Comp) : List Int × Int × List Comp :=
  if mergeErr d t l d' t' l' = 0 then (d, max t t', mergeL l l') else (zero32, 0, [])
end V
theorem moved_wf {st : List Int} {c : V.Comp} (hc : CompWf c) (h : ∀ x ∈ st, (Lit.int .i64 x).wf = true) : CompWf (V.moved st c) := by
  unfold V.moved
  split
  · refine { hc with par := ?_ }
    show (Lit.int .i64 (st.getD _ 0)).wf = true
    rw [List.getD_eq_getElem?_getD]
    cases hq : st[c.par.toNat]? with
    | none => rfl
    | some x => exact h x (List.mem_of_getElem? hq)
  · exact hc
end Go.Proofs.YtpjjkbdkgaehkaaGreatDoor
namespace Go.Proofs.YtpjjkbdkgaehkaaGreatDoor
open Go.RowKit

theorem icells_32 {d : List Int} (hd : d.length = 32) (time : Int) (v : Value) : (icells d time v)[32]? = some (.int .i64 time) := by
  unfold icells dcellsL
  simp [hd]
theorem icells_33 {d : List Int} (hd : d.length = 32) (time : Int) (v : Value) : (icells d time v)[33]? = some v := by
  unfold icells dcellsL
  simp [hd]

theorem inv_head {d : List Int} {time : Int} {l : List V.Comp} (h : d = zero32 ∨ time < 0 ∨ 1099511627776 < time ∨ 128 < l.length) : V.invOk d time l = false := by
  have : V.headOk d time l = false := by
    unfold V.headOk
    rcases h with h | h | h | h
    · have : decide (d = List.replicate 32 0) = true := decide_eq_true h
      rw [this]; rfl
    · have : decide (0 ≤ time) = false := decide_eq_false (by omega)
      rw [this]; simp
    · have : decide (time ≤ 1099511627776) = false := decide_eq_false (by omega)
      rw [this]; simp
    · have : decide (l.length ≤ 128) = false := decide_eq_false (by omega)
      rw [this]; simp
  unfold V.invOk; rw [this]; rfl
theorem inv_rest {d : List Int} {time : Int} {l : List V.Comp} (h1 : ¬ d = zero32) (h2 : ¬ time < 0) (h3 : ¬ 1099511627776 < time) (h4 : ¬ 128 < l.length) : V.invOk d time l = V.compsTo l l.length := by
  have : V.headOk d time l = true := by
    unfold V.headOk
    have a1 : decide (d = List.replicate 32 0) = false := decide_eq_false h1
    have a2 : decide (0 ≤ time) = true := decide_eq_true (by omega)
    have a3 : decide (time ≤ 1099511627776) = true := decide_eq_true (by omega)
    have a4 : decide (l.length ≤ 128) = true := decide_eq_true (by omega)
    rw [a1, a2, a3, a4]; rfl
  unfold V.invOk; rw [this]; rfl
theorem inv_stop {l : List V.Comp} {k : Nat} (hk : k < l.length) (h : V.compAt l k l[k] = false) : V.compsTo l l.length = false :=
  V.compsTo_false (k := k + 1) (by omega) (by rw [V.compsTo_step hk, h]; simp)

set_option maxRecDepth 100000 in
set_option maxHeartbeats 3200000 in
theorem valid19_any (d : List Int) (time : Int) (v : Value) (l : List V.Comp) (w : World) (hm : MaxOk w) (hd : d.length = 32) (hdw : ∀ n ∈ d, (Lit.int .u8 n).wf = true) (hv : Comps w v l) (hl : l.length ≤ maxLen) :
    Calls Tryz.prog 9 #[.agg (icells d time v)] w fun e w' => e = .returned (.bool (V.invOk d time l)) ∧ Below w.heap.size w w' := by
  have HM := Lib.hid hm
  have HL := Lib.hid hv
  have h32 := icells_32 hd time v
  have h33 := icells_33 hd time v
  have HR := Lib.hid (icells_range w 26 time v hd)
  have HI : Hid ((Tryz.prog.info? 23).map (·.size) = some (dcellsL d).length) := Lib.hid (by rw [digInfo]; unfold dcellsL; simp [hd])
  have HQ : Hid (∀ w, (Op.equalIn 10000 23 (.agg (dcells d)) (.agg (dcells zero32))).run Tryz.prog w = .ok (decide (d = zero32)) w) := Lib.hid (fun w => eq_dig hd hdw (by decide) (by decide) w)
  have hmm := @run_makeMap Tryz.prog
  obtain ⟨va, vc, rfl, _⟩ := hv
  unfold maxLen at hl
  clear hm hd hdw
  generalize icells d time (.slice va l.length vc) = ic at *
  by_cases c1 : d = zero32
  · have HV := Lib.hid (inv_head (time := time) (l := l) (.inl c1))
    have HD : Hid (decide (d = zero32) = true) := Lib.hid (decide_eq_true c1)
    clear c1
    rw [HD.out] at HQ
    go_enter Tryz.func9, Tryz.ntmps9
    go_wp2_with (first | (refine wpList_load_mid rfl 23 _ rfl w.heap.size 0 rfl (dcellsL d) _ HR.out Tryz.underlying23 rfl HI.out ?_) | (refine wl_eql rfl 23 23 _ _ rfl (dcells d) (dcells zero32) rfl rfl guard_dig true (HQ.out _) ?_) | fail)
    go_ret
    exact ⟨ret_bool HV.out.symm, (Below.refl _ w).alloc (Nat.le_refl _) _⟩
  · have HD : Hid (decide (d = zero32) = false) := Lib.hid (decide_eq_false c1)
    rw [HD.out] at HQ
    by_cases c2 : time < 0
    · have HV := Lib.hid (inv_head (d := d) (l := l) (.inr (.inl c2)))
      clear c1
      go_enter Tryz.func9, Tryz.ntmps9
      go_wp2_with (first | (refine wpList_load_mid rfl 23 _ rfl w.heap.size 0 rfl (dcellsL d) _ HR.out Tryz.underlying23 rfl HI.out ?_) | (refine wl_eql rfl 23 23 _ _ rfl (dcells d) (dcells zero32) rfl rfl guard_dig false (HQ.out _) ?_) | fail)
      go_ret
      exact ⟨ret_bool HV.out.symm, (Below.refl _ w).alloc (Nat.le_refl _) _⟩
    · by_cases c3 : 1099511627776 < time
      · have HV := Lib.hid (inv_head (d := d) (l := l) (.inr (.inr (.inl c3))))
        clear c1
        go_enter Tryz.func9, Tryz.ntmps9
        go_wp2_with (first | (refine wpList_load_mid rfl 23 _ rfl w.heap.size 0 rfl (dcellsL d) _ HR.out Tryz.underlying23 rfl HI.out ?_) | (refine wl_eql rfl 23 23 _ _ rfl (dcells d) (dcells zero32) rfl rfl guard_dig false (HQ.out _) ?_) | fail)
        go_ret
        exact ⟨ret_bool HV.out.symm, (Below.refl _ w).alloc (Nat.le_refl _) _⟩
      · by_cases c4 : 128 < l.length
        · have HV := Lib.hid (inv_head (d := d) (time := time) (.inr (.inr (.inr c4))))
          clear c1
          go_enter Tryz.func9, Tryz.ntmps9
          go_wp2_with (first | (refine wpList_load_mid rfl 23 _ rfl w.heap.size 0 rfl (dcellsL d) _ HR.out Tryz.underlying23 rfl HI.out ?_) | (refine wl_eql rfl 23 23 _ _ rfl (dcells d) (dcells zero32) rfl rfl guard_dig false (HQ.out _) ?_) | fail)
          go_ret
          exact ⟨ret_bool HV.out.symm, (Below.refl _ w).alloc (Nat.le_refl _) _⟩
        · have HV := Lib.hid (inv_rest c1 c2 c3 c4)
          have c4' : l.length ≤ 128 := by omega
          have HMP := Lib.hid (CMap.made (w.alloc (.cells ic 26)))
          have HB0 : Hid (Below w.heap.size w ((w.alloc (.cells ic 26)).alloc (.map #[] 0))) := Lib.hid (((Below.refl _ w).alloc (Nat.le_refl _) _).alloc (by simp) _)
          clear c1 hl
          go_enter Tryz.func9, Tryz.ntmps9
          go_wp2_with (first | (refine wpList_load_mid rfl 23 _ rfl w.heap.size 0 rfl (dcellsL d) _ HR.out Tryz.underlying23 rfl HI.out ?_) | (refine wl_eql rfl 23 23 _ _ rfl (dcells d) (dcells zero32) rfl rfl guard_dig false (HQ.out _) ?_) | fail)
          have hmp : CMap ((w.alloc (.cells ic 26)).alloc (.map #[] 0)) (w.heap.size + 1) 0 [] := by have := HMP.out; simpa using this
          have hzz : w.heap.size + 1 < ((w.alloc (.cells ic 26)).alloc (.map #[] 0)).heap.size := by simp
          have HB1 := HB0
          clear HMP HB0 h32 h33 HR HI HQ hmm HD
          go_loopw [30] (fun i wr => ∃ k : Nat, k ≤ l.length ∧ i = .int .i64 k ∧ V.compsTo l k = true ∧ CMap wr (w.heap.size + 1) k (l.take k) ∧ w.heap.size + 1 < wr.heap.size ∧ Below w.heap.size w wr) (fun i _ => l.length - (intOf i).toNat)
          case atStart => exact ⟨0, Nat.zero_le _, rfl, rfl, hmp, hzz, HB1.out⟩
          case round =>
            obtain ⟨k, hk, rfl, hto, hcm, hzr, hbr⟩ := hrel
            have HTO := Lib.hid hto
            have HCM := Lib.hid hcm
            have HBR := Lib.hid hbr
            clear hto hcm hbr hmp
            by_cases hlt : k < l.length
            · obtain ⟨hxw, b, off, rfl, hblt, hxr⟩ := HL.out.at k hlt
              have HST := Lib.hid (V.compsTo_step hlt)
              have HSTOP := Lib.hid (inv_stop hlt)
              have HTAKE : Hid (l.take (k + 1) = l.take k ++ [l[k]]) := Lib.hid (List.take_succ_eq_append_getElem hlt)
              have hca : V.compAt l k l[k] = (V.compOk l[k] && (decide (-1 ≤ l[k].par) && (decide (l[k].par < k) && !decide (l[k] ∈ l.take k)))) := rfl
              have HCA := Lib.hid hca
              have HX := Lib.hid hxw
              have HXR := Lib.hid (rangeAt_below hxr HBR.out)
              clear hxw hxr hca
              generalize l[k] = x at *
              have x0 := ccells_0 x
              go_wp2_with (first | (refine wl_load rfl _ rfl b (off + k * 36) rfl x HX.out HXR.out ?_) | (refine wl_store rfl _ _ rfl _ _ rfl x HX.out rfl rfl ?_) | (refine wl_load rfl _ rfl wr.heap.size 0 rfl x HX.out (range_new x wr _) ?_) | fail)
              have hb1 : Below w.heap.size w (wr.alloc (.cells (ccells x) 66)) := HBR.out.alloc HBR.out.size _
              have hcm1 : CMap (wr.alloc (.cells (ccells x) 66)) (w.heap.size + 1) k (l.take k) := HCM.out.kept ((Below.refl _ wr).alloc (Nat.le_refl _) _)
              have hx1 := range_new x wr 66
              have hz1 : wr.heap.size < (wr.alloc (.cells (ccells x) 66)).heap.size := by simp
              generalize wr.alloc (.cells (ccells x) 66) = w1 at *
              obtain ⟨X, hXe⟩ : ∃ X, X = wr.heap.size := ⟨_, rfl⟩
              rw [← hXe] at hx1 hz1 hzr ⊢
              clear hXe x0
              refine (component_any x _ (HM.out.below hb1) HX.out).mono ?_
              rintro e w2 ⟨rfl, hb2⟩
              have HB2 := Lib.hid (hb1.trans (hb2.mono hb1.size))
              have HCM2 := Lib.hid (hcm1.kept hb2)
              have hx2 := rangeAt_below hx1 hb2
              have x0 : w2.cell? ⟨X, 0, none⟩ = some (.int .i64 x.par) := hx2 0 _ rfl
              have HX2 := Lib.hid hx2
              have hz2 : X < w2.heap.size := Nat.lt_of_lt_of_le hz1 hb2.size
              have hpr := wf_rng HX.out.par
              clear hb1 hcm1 hx1 hz1 hb2 hx2
              rcases hok : V.compOk x with _ | _
              · have HF : Hid (V.invOk d time l = false) := Lib.hid (by rw [HV.out]; exact HSTOP.out (by rw [HCA.out, hok]; rfl))
                clear hok
                go_wp2
                go_ret
                exact ⟨ret_bool HF.out.symm, HB2.out⟩
              · by_cases p1 : x.par < -1
                · have HF : Hid (V.invOk d time l = false) := Lib.hid (by rw [HV.out]; exact HSTOP.out (by rw [HCA.out, decide_eq_false (show ¬ -1 ≤ x.par by omega)]; simp))
                  clear hok
                  go_wp2
                  go_ret
                  exact ⟨ret_bool HF.out.symm, HB2.out⟩
                · by_cases p2 : x.par < (k : Int)
                  · have q1 : decide (x.par < -1) = false := decide_eq_false p1
                    have q2 : decide ((k : Int) ≤ x.par) = false := decide_eq_false (by omega)
                    by_cases p3 : x ∈ l.take k
                    · have HF : Hid (V.invOk d time l = false) := Lib.hid (by rw [HV.out]; exact HSTOP.out (by rw [HCA.out, decide_eq_true p3]; simp))
                      have HP3 : Hid (decide (x ∈ l.take k) = true) := Lib.hid (decide_eq_true p3)
                      clear hok p3
                      go_wp2_with (first | (refine wg_load rfl _ rfl X 0 rfl x HX.out HX2.out ?_) | (refine wg_lookup rfl _ _ rfl (w.heap.size + 1) k (l.take k) rfl HCM2.out x HX.out rfl ?_; rw [HP3.out]) | fail)
                      go_ret
                      exact ⟨ret_bool HF.out.symm, HB2.out⟩
                    · have HN : Hid (V.compsTo l (k + 1) = true) := Lib.hid (by
                        rw [HST.out, HTO.out, HCA.out, hok, decide_eq_true (show -1 ≤ x.par by omega), decide_eq_true p2, decide_eq_false p3]; rfl)
                      have HP3 : Hid (decide (x ∈ l.take k) = false) := Lib.hid (decide_eq_false p3)
                      clear hok p3
                      go_wp2_with (first | (refine wg_load rfl _ rfl X 0 rfl x HX.out HX2.out ?_) | (refine wg_lookup rfl _ _ rfl (w.heap.size + 1) k (l.take k) rfl HCM2.out x HX.out rfl ?_; rw [HP3.out]) | (refine wl_update rfl _ _ _ rfl (w.heap.size + 1) k (l.take k) rfl HCM2.out (by unfold maxLen; omega) x HX.out rfl rfl ?_; intro w3 hm3 hg3) | fail)
                      rw [← HTAKE.out] at hm3
                      have HM3 := Lib.hid hm3
                      have HB3 := Lib.hid (HB2.out.trans (grown_below hg3 (by omega) HB2.out.size))
                      have hz3 : w.heap.size + 1 < w3.heap.size := Nat.lt_of_lt_of_le (by omega) hg3.size
                      clear hm3 hg3
                      go_wp2
                      go_roundw
                      case rel => exact ⟨k + 1, by omega, by go_num, HN.out, HM3.out, hz3, HB3.out⟩
                      case measure => simp [intOf]; omega
                  · have HF : Hid (V.invOk d time l = false) := Lib.hid (by rw [HV.out]; exact HSTOP.out (by rw [HCA.out, decide_eq_false p2]; simp))
                    clear hok
                    go_wp2
                    go_ret
                    exact ⟨ret_bool HF.out.symm, HB2.out⟩
            · obtain rfl : k = l.length := by omega
              have HT : Hid (V.invOk d time l = true) := Lib.hid (by rw [HV.out]; exact HTO.out)
              go_wp2
              go_ret
              exact ⟨ret_bool HT.out.symm, HBR.out⟩
end Go.Proofs.YtpjjkbdkgaehkaaGreatDoor
