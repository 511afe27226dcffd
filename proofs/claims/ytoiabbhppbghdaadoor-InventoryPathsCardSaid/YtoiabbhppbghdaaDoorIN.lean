/-
  Walk: light; components changed in place.
-/
import Derived.Test.YtoiabbhppbghdaaDoorIL
namespace Go.Proofs.YtoiabbhppbghdaaDoor
open Go.RowKit

def LightPost (l : List V.Comp) (w : World) (e : Ending) (w' : World) : Prop := ∃ r : Bool, e = .returned (.bool r) ∧ (r = true → l.length ≤ 150) ∧ Below w.heap.size w w'

set_option maxRecDepth 100000 in
set_option maxHeartbeats 1600000 in
theorem light_any (d : List Int) (t : Int) (v : Value) (l : List V.Comp) (w : World) (hd : d.length = 32) (hv : Comps w v l) :
    Calls Tryd.prog 18 #[.agg (icells d t v)] w (LightPost l w) := by
  have HL := Lib.hid hv
  have h33 := icells_33 hd t v
  obtain ⟨va, vc, rfl, hjunk⟩ := hv
  clear hjunk
  have hb0 : Below w.heap.size w (w.alloc (.cells (icells d t (.slice va l.length vc)) 26)) := (Below.refl _ w).alloc (Nat.le_refl _) _
  have hw33 : (w.alloc (.cells (icells d t (.slice va l.length vc)) 26)).cell? ⟨w.heap.size, 33, none⟩ = some (.slice va l.length vc) := by rw [World.cell?_alloc_new]; exact h33
  have hz0 : w.heap.size < (w.alloc (.cells (icells d t (.slice va l.length vc)) 26)).heap.size := by simp
  have HB0 := Lib.hid hb0
  clear h33 hb0
  generalize icells d t (.slice va l.length vc) = ic at *
  by_cases h150 : 150 < l.length
  · go_enter Tryd.func18, Tryd.ntmps18
    go_wp2
    go_ret
    exact ⟨false, rfl, fun h => (by cases h), HB0.out⟩
  · have h150' : l.length ≤ 150 := by omega
    go_enter Tryd.func18, Tryd.ntmps18
    go_wp2
    generalize w.alloc (.cells ic 26) = W0 at *
    go_loopw [3] (fun jv wx => ∃ j : Nat, j ≤ l.length ∧ jv = .int .i64 j ∧ Below W0.heap.size W0 wx) (fun jv _ => l.length - (intOf jv).toNat)
    case atStart => exact ⟨0, Nat.zero_le _, rfl, Below.refl _ _⟩
    case round =>
      obtain ⟨j, hj, rfl, hbx⟩ := hrel
      have HBX := Lib.hid hbx
      have hx33 := (hbx.cell (p := ⟨w.heap.size, 33, none⟩) hz0).trans hw33
      have HBF := Lib.hid (HB0.out.trans (hbx.mono HB0.out.size))
      clear hbx
      by_cases hlt : j < l.length
      · obtain ⟨hdw, g, off, rfl, hgl, hgr⟩ := HL.out.at j hlt
        have hr := rangeAt_below hgr HBF.out
        generalize l[j] = c at *
        have hc2 := hr 2 _ rfl
        have hc3 := hr 3 _ rfl
        generalize (⟨c.name.toArray⟩ : ByteArray) = nm at *
        generalize (⟨c.ver.toArray⟩ : ByteArray) = vr at *
        have hi1 : (0 : Int) ≤ (j : Int) := by omega
        have hi2 : (j : Int) < (l.length : Int) := by omega
        clear hdw hgr hr
        by_cases hn : 400 < nm.size
        · go_wp2
          go_ret
          exact ⟨false, rfl, fun h => (by cases h), HBF.out⟩
        · by_cases hvr : 200 < vr.size
          · go_wp2
            go_ret
            exact ⟨false, rfl, fun h => (by cases h), HBF.out⟩
          · go_wp2
            go_roundw
            case rel => exact ⟨j + 1, by omega, by go_num, HBX.out⟩
            case measure => simp [intOf]; omega
      · obtain rfl : j = l.length := by omega
        go_wp2
        go_ret
        exact ⟨true, rfl, fun _ => h150', HBF.out⟩

/-- a component of a row changed in one cell -/
theorem Comps.setAt {w : World} {g cap : Nat} {l : List V.Comp} (h : Comps w (.slice (some ⟨g, 0, none⟩) l.length cap) l) {k f : Nat} {u : Value} {c : V.Comp} (hk : k < l.length) (hf : f < 36) (hc : CompWf c) (hcs : cellsL c = (cellsL l[k]).set f u) :
    Comps (w.setCell ⟨g, k * 36 + f, none⟩ u) (.slice (some ⟨g, 0, none⟩) l.length cap) (l.set k c) := by
  obtain ⟨a, c0, e, hat⟩ := h
  cases e
  refine ⟨_, cap, by rw [List.length_set], fun j hj => ?_⟩
  have hj' : j < l.length := by simpa using hj
  obtain ⟨hwk, bk, ok, ek, hltk, hrk⟩ := hat k hk
  cases ek
  have hex : ∃ v, w.cell? ⟨g, k * 36 + f, none⟩ = some v := by
    have h36 := cellsL_len hwk
    have := hrk f _ (List.getElem?_eq_getElem (show f < (cellsL l[k]).length by omega))
    rw [Nat.zero_add] at this
    exact ⟨_, this⟩
  have hz : (w.setCell ⟨g, k * 36 + f, none⟩ u).heap.size = w.heap.size := by simp [World.setCell]
  by_cases hjk : j = k
  · subst hjk
    rw [List.getElem_set_self]
    refine ⟨hc, g, 0, rfl, by omega, fun i u' hu => ?_⟩
    rw [cell_set w _ _ _ _ u hex]
    rw [hcs, List.getElem?_set] at hu
    by_cases hi : i = f
    · subst hi
      rw [if_pos ⟨rfl, by omega⟩]
      rw [if_pos rfl] at hu
      split at hu
      · exact hu
      · cases hu
    · rw [if_neg (by omega)]
      rw [if_neg (by omega)] at hu
      exact hrk i u' hu
  · obtain ⟨hwj, bj, oj, ej, hltj, hrj⟩ := hat j hj'
    cases ej
    rw [List.getElem_set_ne (by omega)]
    refine ⟨hwj, g, 0, rfl, by omega, fun i u' hu => ?_⟩
    have hi : i < 36 := by
      have := (List.getElem?_eq_some_iff.1 hu).1
      rwa [cellsL_len hwj] at this
    rw [cell_set w _ _ _ _ u hex, if_neg (by omega)]
    exact hrj i u' hu
theorem set_par (c : V.Comp) (p : Int) : cellsL { c with par := p } = (cellsL c).set 0 (.int .i64 p) := rfl
theorem set_sch (c : V.Comp) (p : Int) : cellsL { c with sch := p } = (cellsL c).set 1 (.int .i64 p) := rfl
theorem set_name (c : V.Comp) (x : V.Bs) : cellsL { c with name := x } = (cellsL c).set 2 (.string ⟨x.toArray⟩) := rfl
theorem set_ver (c : V.Comp) (x : V.Bs) : cellsL { c with ver := x } = (cellsL c).set 3 (.string ⟨x.toArray⟩) := rfl
theorem icells_set32 {d : List Int} (hd : d.length = 32) (time u : Int) (v : Value) : (icells d time v).setIfInBounds 32 (.int .i64 u) = icells d u v := by
  have h32 : (dcellsL d).length = 32 := by unfold dcellsL; simp [hd]
  unfold icells
  rw [List.setIfInBounds_toArray, List.set_append_right _ _ (by omega), h32]
  rfl
/-- a block's row behind a range stored -/
theorem setCells_heap {g : Nat} {t : TypeId} {fr : Nat × Nat} : ∀ (vs : List Value) (o : Nat) (w : World) (cs : Array Value), w.heap[g]? = some (.cells cs t fr) →
    ∃ cs', (w.setCells g o vs).heap[g]? = some (.cells cs' t fr) ∧ cs'.size = cs.size ∧ ∀ i, cs'[i]? = if o ≤ i ∧ i < o + vs.length ∧ i < cs.size then vs[i - o]? else cs[i]?
  | [], o, w, cs, h => ⟨cs, h, rfl, fun i => by rw [if_neg (by simp; omega)]⟩
  | v :: r, o, w, cs, h => by
    obtain ⟨cs', h1, h2, h3⟩ := setCells_heap r (o + 1) _ _ (setCell_heap o v h)
    refine ⟨cs', h1, by rw [h2]; simp, fun i => ?_⟩
    rw [h3]
    simp only [Array.size_setIfInBounds, List.length_cons]
    by_cases hi : i = o
    · subst hi
      rw [if_neg (by omega), Array.getElem?_setIfInBounds]
      by_cases hs : i < cs.size
      · rw [if_pos rfl, if_pos hs, if_pos ⟨by omega, by omega, hs⟩]
        simp
      · rw [if_pos rfl, if_neg hs, if_neg (by omega)]
        exact (Array.getElem?_eq_none (by omega)).symm
    · by_cases hb : o + 1 ≤ i ∧ i < o + 1 + r.length ∧ i < cs.size
      · rw [if_pos hb, if_pos (by omega), show i - o = (i - (o + 1)) + 1 by omega]
        rfl
      · rw [if_neg hb, if_neg (by omega), Array.getElem?_setIfInBounds_ne (by omega)]
/-- an inventory whose digest is set to nothing -/
theorem icells_zeroed {w : World} {g : Nat} {t : TypeId} {d : List Int} (hd : d.length = 32) (time : Int) (v : Value) (hg : w.heap[g]? = some (.cells (icells d time v) t (0, 0))) :
    (w.setCells g 0 (dcellsL zero32)).heap[g]? = some (.cells (icells zero32 time v) t (0, 0)) := by
  obtain ⟨cs', h1, h2, h3⟩ := setCells_heap (dcellsL zero32) 0 w _ hg
  rw [h1]
  have e : cs' = icells zero32 time v := by
    apply Array.ext_getElem?
    intro i
    have hl : (dcellsL zero32).length = 32 := rfl
    have hl2 : (dcellsL d).length = 32 := by unfold dcellsL; simp [hd]
    have hs : (icells d time v).size = 34 := icells_size hd time v
    rw [h3, hl, hs]
    by_cases hi : i < 32
    · rw [if_pos (by omega)]
      unfold icells
      rw [List.getElem?_toArray, List.getElem?_append_left (by omega), Nat.sub_zero]
    · rw [if_neg (by omega)]
      unfold icells
      rw [List.getElem?_toArray, List.getElem?_toArray, List.getElem?_append_right (by omega), List.getElem?_append_right (by omega), hl, hl2]
  rw [e]
/-- one cell stored, as a step of a region that draws -/
theorem step_set {ops : Array Oper} {o : Oper} {a : Act} {w : World} {K : Act → World → Prop} {Q : Exit → Act → World → Prop} {E : Prop} (hgd : o.guard = none) (ty : TypeId) (x y : Operand) (ho : o.op = .store ty x y)
    (b off : Nat) (hx : a.eval x = .pointer (some ⟨b, off, none⟩)) (v : Value) (hy : a.eval y = v) (u : Value) (hc : w.cell? ⟨b, off, none⟩ = some u) (hf : w.frozen? ⟨b, off, none⟩ = false) (hi : (Tryd.prog.info? ty).map (·.size) = some 1) (h1 : v.oneCell' = true)
    (h : K (a.put o.dst undef) (w.setCell ⟨b, off, none⟩ v)) : if Region.wanted o (yielded ops a.tmps) = true then Oper.wp Tryd.prog o a w K Q else E := by
  rw [if_pos (by simp [Region.wanted, hgd])]
  unfold Oper.wp execOp
  simp only [ho, hx, hy, Instr.storeAt, Instr.sureAddr, Sem.run_bind, Sem.run_pure, Result.andThen_ok, run_set hc hf hi h1]
  exact h
/-- one component as a slice of its own, as a step of a region that draws -/
theorem step_build1 {ops : Array Oper} {o : Oper} {a : Act} {w : World} {K : Act → World → Prop} {Q : Exit → Act → World → Prop} {E : Prop} (hgd : o.guard = none) (x : Operand) (ho : o.op = .buildSlice 24 1 #[(0, x)])
    (c : V.Comp) (hc : CompWf c) (hx : a.eval x = .agg (ccells c))
    (h : K (a.put o.dst (.slice (some ⟨w.heap.size, 0, none⟩) 1 1)) (w.alloc (.cells (ccells c) 35))) : if Region.wanted o (yielded ops a.tmps) = true then Oper.wp Tryd.prog o a w K Q else E := by
  rw [if_pos (by simp [Region.wanted, hgd])]
  obtain ⟨ie, z, hie, hsz, hz⟩ := compIE
  refine wp_buildSlice _ 35 1 _ ho (ccells c) ie z Tryd.underlying24 hie hz (by rw [hsz]; decide) (by rw [hsz]; decide) ?_ h
  have := Great.fill_whole (s := 36) (by decide) [Value.agg (ccells c)] ((Array.range (1 * ie.size)).map (z.cells[· % z.cells.size]!)) (fun v hv => by
    rcases List.mem_cons.1 hv with rfl | hv
    · exact hc.size
    · cases hv) (by rw [hsz]; simp)
  rw [hsz] at this ⊢
  simp only [hx, List.map_toArray, List.map_cons, List.map_nil]
  exact this.trans (by simp [Value.cells])
end Go.Proofs.YtoiabbhppbghdaaDoor
