/-
  Walk: light; components changed in place.
  Inventories as values: loaded, stored.
  The states of the maker odd.
-/
import Derived.Test.YtnhfaincdabdkaaGreatDoorIL
import Derived.Test.YtnhfaincdabdkaaGreatDoorZE
namespace Go.Proofs.YtnhfaincdabdkaaGreatDoor
open Go.RowKit

def LightPost (l : List V.Comp) (w : World) (e : Ending) (w' : World) : Prop := ∃ r : Bool, e = .returned (.bool r) ∧ (r = true → l.length ≤ 150) ∧ Below w.heap.size w w'

set_option maxRecDepth 100000 in
set_option maxHeartbeats 1600000 in
theorem light_any (d : List Int) (t : Int) (v : Value) (l : List V.Comp) (w : World) (hd : d.length = 32) (hv : Comps w v l) :
    Calls Tryz.prog 56 #[.agg (icells d t v)] w (LightPost l w) := by
  have HL := Lib.hid hv
  have h33 := icells_33 hd t v
  obtain ⟨va, vc, rfl, hjunk⟩ := hv
  clear hjunk
  have hb0 : Below w.heap.size w (w.alloc (.cells (icells d t (.slice va l.length vc)) 27)) := (Below.refl _ w).alloc (Nat.le_refl _) _
  have hw33 : (w.alloc (.cells (icells d t (.slice va l.length vc)) 27)).cell? ⟨w.heap.size, 33, none⟩ = some (.slice va l.length vc) := by rw [World.cell?_alloc_new]; exact h33
  have hz0 : w.heap.size < (w.alloc (.cells (icells d t (.slice va l.length vc)) 27)).heap.size := by simp
  have HB0 := Lib.hid hb0
  clear h33 hb0
  generalize icells d t (.slice va l.length vc) = ic at *
  by_cases h150 : 150 < l.length
  · go_enter Tryz.func56, Tryz.ntmps56
    go_wp2
    go_ret
    exact ⟨false, rfl, fun h => (by cases h), HB0.out⟩
  · have h150' : l.length ≤ 150 := by omega
    go_enter Tryz.func56, Tryz.ntmps56
    go_wp2
    generalize w.alloc (.cells ic 27) = W0 at *
    go_loopw [3] (fun jv wx => ∃ j : Nat, j ≤ l.length ∧ jv = .int .i64 j ∧ Below W0.heap.size W0 wx) (fun jv _ => l.length - (intOf jv).toNat)
    case atStart => exact ⟨0, Nat.zero_le _, rfl, Below.refl _ _⟩
    case round =>
      obtain ⟨j, hj, rfl, hbx⟩ := hrel
      have HBX := Lib.hid hbx
      have hx33 := (hbx.cell (p := ⟨w.heap.size, 33, none⟩) hz0).trans hw33
      have HBF := Lib.hid (HB0.out.trans (hbx.mono HB0.out.size))
      clear hbx
      by_cases hlt : j < l.length
      · obtain ⟨hdw, g, off, rfl, hgl, hgr⟩ := HL.out.at j hlt
        have hr := rangeAt_below hgr HBF.out
        generalize l[j] = c at *
        have hc2 := hr 2 _ rfl
        have hc3 := hr 3 _ rfl
        generalize (⟨c.name.toArray⟩ : ByteArray) = nm at *
        generalize (⟨c.ver.toArray⟩ : ByteArray) = vr at *
        have hi1 : (0 : Int) ≤ (j : Int) := by omega
        have hi2 : (j : Int) < (l.length : Int) := by omega
        clear hdw hgr hr
        by_cases hn : 400 < nm.size
        · go_wp2
          go_ret
          exact ⟨false, rfl, fun h => (by cases h), HBF.out⟩
        · by_cases hvr : 200 < vr.size
          · go_wp2
            go_ret
            exact ⟨false, rfl, fun h => (by cases h), HBF.out⟩
          · go_wp2
            go_roundw
            case rel => exact ⟨j + 1, by omega, by go_num, HBX.out⟩
            case measure => simp [intOf]; omega
      · obtain rfl : j = l.length := by omega
        go_wp2
        go_ret
        exact ⟨true, rfl, fun _ => h150', HBF.out⟩

/-- a component of a row changed in one cell -/
theorem Comps.setAt {w : World} {g cap : Nat} {l : List V.Comp} (h : Comps w (.slice (some ⟨g, 0, none⟩) l.length cap) l) {k f : Nat} {u : Value} {c : V.Comp} (hk : k < l.length) (hf : f < 36) (hc : CompWf c) (hcs : cellsL c = (cellsL l[k]).set f u) :
    Comps (w.setCell ⟨g, k * 36 + f, none⟩ u) (.slice (some ⟨g, 0, none⟩) l.length cap) (l.set k c) := by
  obtain ⟨a, c0, e, hat⟩ := h
  cases e
  refine ⟨_, cap, by rw [List.length_set], fun j hj => ?_⟩
  have hj' : j < l.length := by simpa using hj
  obtain ⟨hwk, bk, ok, ek, hltk, hrk⟩ := hat k hk
  cases ek
  have hex : ∃ v, w.cell? ⟨g, k * 36 + f, none⟩ = some v := by
    have h36 := cellsL_len hwk
    have := hrk f _ (List.getElem?_eq_getElem (show f < (cellsL l[k]).length by omega))
    rw [Nat.zero_add] at this
    exact ⟨_, this⟩
  have hz : (w.setCell ⟨g, k * 36 + f, none⟩ u).heap.size = w.heap.size := by simp [World.setCell]
  by_cases hjk : j = k
  · subst hjk
    rw [List.getElem_set_self]
    refine ⟨hc, g, 0, rfl, by omega, fun i u' hu => ?_⟩
    rw [cell_set w _ _ _ _ u hex]
    rw [hcs, List.getElem?_set] at hu
    by_cases hi : i = f
    · subst hi
      rw [if_pos ⟨rfl, by omega⟩]
      rw [if_pos rfl] at hu
      split at hu
      · exact hu
      · cases hu
    · rw [if_neg (by omega)]
      rw [if_neg (by omega)] at hu
      exact hrk i u' hu
  · obtain ⟨hwj, bj, oj, ej, hltj, hrj⟩ := hat j hj'
    cases ej
    rw [List.getElem_set_ne (by omega)]
    refine ⟨hwj, g, 0, rfl, by omega, fun i u' hu => ?_⟩
    have hi : i < 36 := by
      have := (List.getElem?_eq_some_iff.1 hu).1
      rwa [cellsL_len hwj] at this
    rw [cell_set w _ _ _ _ u hex, if_neg (by omega)]
    exact hrj i u' hu
theorem set_par (c : V.Comp) (p : Int) : cellsL { c with par := p } = (cellsL c).set 0 (.int .i64 p) := rfl
theorem set_sch (c : V.Comp) (p : Int) : cellsL { c with sch := p } = (cellsL c).set 1 (.int .i64 p) := rfl
theorem set_name (c : V.Comp) (x : V.Bs) : cellsL { c with name := x } = (cellsL c).set 2 (.string ⟨x.toArray⟩) := rfl
theorem set_ver (c : V.Comp) (x : V.Bs) : cellsL { c with ver := x } = (cellsL c).set 3 (.string ⟨x.toArray⟩) := rfl
theorem icells_set32 {d : List Int} (hd : d.length = 32) (time u : Int) (v : Value) : (icells d time v).setIfInBounds 32 (.int .i64 u) = icells d u v := by
  have h32 : (dcellsL d).length = 32 := by unfold dcellsL; simp [hd]
  unfold icells
  rw [List.setIfInBounds_toArray, List.set_append_right _ _ (by omega), h32]
  rfl
/-- a block's row behind a range stored -/
theorem setCells_heap {g : Nat} {t : TypeId} {fr : Nat × Nat} : ∀ (vs : List Value) (o : Nat) (w : World) (cs : Array Value), w.heap[g]? = some (.cells cs t fr) →
    ∃ cs', (w.setCells g o vs).heap[g]? = some (.cells cs' t fr) ∧ cs'.size = cs.size ∧ ∀ i, cs'[i]? = if o ≤ i ∧ i < o + vs.length ∧ i < cs.size then vs[i - o]? else cs[i]?
  | [], o, w, cs, h => ⟨cs, h, rfl, fun i => by rw [if_neg (by simp; omega)]⟩
  | v :: r, o, w, cs, h => by
    obtain ⟨cs', h1, h2, h3⟩ := setCells_heap r (o + 1) _ _ (setCell_heap o v h)
    refine ⟨cs', h1, by rw [h2]; simp, fun i => ?_⟩
    rw [h3]
    simp only [Array.size_setIfInBounds, List.length_cons]
    by_cases hi : i = o
    · subst hi
      rw [if_neg (by omega), Array.getElem?_setIfInBounds]
      by_cases hs : i < cs.size
      · rw [if_pos rfl, if_pos hs, if_pos ⟨by omega, by omega, hs⟩]
        simp
      · rw [if_pos rfl, if_neg hs, if_neg (by omega)]
        exact (Array.getElem?_eq_none (by omega)).symm
    · by_cases hb : o + 1 ≤ i ∧ i < o + 1 + r.length ∧ i < cs.size
      · rw [if_pos hb, if_pos (by omega), show i - o = (i - (o + 1)) + 1 by omega]
        rfl
      · rw [if_neg hb, if_neg (by omega), Array.getElem?_setIfInBounds_ne (by omega)]
/-- an inventory whose digest is set to nothing -/
theorem icells_zeroed {w : World} {g : Nat} {t : TypeId} {d : List Int} (hd : d.length = 32) (time : Int) (v : Value) (hg : w.heap[g]? = some (.cells (icells d time v) t (0, 0))) :
    (w.setCells g 0 (dcellsL zero32)).heap[g]? = some (.cells (icells zero32 time v) t (0, 0)) := by
  obtain ⟨cs', h1, h2, h3⟩ := setCells_heap (dcellsL zero32) 0 w _ hg
  rw [h1]
  have e : cs' = icells zero32 time v := by
    apply Array.ext_getElem?
    intro i
    have hl : (dcellsL zero32).length = 32 := rfl
    have hl2 : (dcellsL d).length = 32 := by unfold dcellsL; simp [hd]
    have hs : (icells d time v).size = 34 := icells_size hd time v
    rw [h3, hl, hs]
    by_cases hi : i < 32
    · rw [if_pos (by omega)]
      unfold icells
      rw [List.getElem?_toArray, List.getElem?_append_left (by omega), Nat.sub_zero]
    · rw [if_neg (by omega)]
      unfold icells
      rw [List.getElem?_toArray, List.getElem?_toArray, List.getElem?_append_right (by omega), List.getElem?_append_right (by omega), hl, hl2]
  rw [e]
/-- one cell stored, as a step of a region that draws -/
theorem step_set {ops : Array Oper} {o : Oper} {a : Act} {w : World} {K : Act → World → Prop} {Q : Exit → Act → World → Prop} {E : Prop} (hgd : o.guard = none) (ty : TypeId) (x y : Operand) (ho : o.op = .store ty x y)
    (b off : Nat) (hx : a.eval x = .pointer (some ⟨b, off, none⟩)) (v : Value) (hy : a.eval y = v) (u : Value) (hc : w.cell? ⟨b, off, none⟩ = some u) (hf : w.frozen? ⟨b, off, none⟩ = false) (hi : (Tryz.prog.info? ty).map (·.size) = some 1) (h1 : v.oneCell' = true)
    (h : K (a.put o.dst undef) (w.setCell ⟨b, off, none⟩ v)) : if Region.wanted o (yielded ops a.tmps) = true then Oper.wp Tryz.prog o a w K Q else E := by
  rw [if_pos (by simp [Region.wanted, hgd])]
  unfold Oper.wp execOp
  simp only [ho, hx, hy, Instr.storeAt, Instr.sureAddr, Sem.run_bind, Sem.run_pure, Result.andThen_ok, run_set hc hf hi h1]
  exact h
/-- one component as a slice of its own, as a step of a region that draws -/
theorem step_build1 {ops : Array Oper} {o : Oper} {a : Act} {w : World} {K : Act → World → Prop} {Q : Exit → Act → World → Prop} {E : Prop} (hgd : o.guard = none) (x : Operand) (ho : o.op = .buildSlice 25 1 #[(0, x)])
    (c : V.Comp) (hc : CompWf c) (hx : a.eval x = .agg (ccells c))
    (h : K (a.put o.dst (.slice (some ⟨w.heap.size, 0, none⟩) 1 1)) (w.alloc (.cells (ccells c) 88))) : if Region.wanted o (yielded ops a.tmps) = true then Oper.wp Tryz.prog o a w K Q else E := by
  rw [if_pos (by simp [Region.wanted, hgd])]
  obtain ⟨ie, z, hie, hsz, hz⟩ := compIE
  refine wp_buildSlice _ 88 1 _ ho (ccells c) ie z Tryz.underlying25 hie hz (by rw [hsz]; decide) (by rw [hsz]; decide) ?_ h
  have := Great.fill_whole (s := 36) (by decide) [Value.agg (ccells c)] ((Array.range (1 * ie.size)).map (z.cells[· % z.cells.size]!)) (fun v hv => by
    rcases List.mem_cons.1 hv with rfl | hv
    · exact hc.size
    · cases hv) (by rw [hsz]; simp)
  rw [hsz] at this ⊢
  simp only [hx, List.map_toArray, List.map_cons, List.map_nil]
  exact this.trans (by simp [Value.cells])
end Go.Proofs.YtnhfaincdabdkaaGreatDoor
namespace Go.Proofs.YtnhfaincdabdkaaGreatDoor
open Go.RowKit

/-- an inventory as a value with what its components read as -/
structure IV where
  d : List Int
  t : Int
  v : Value
  l : List V.Comp
def icl (x : IV) : List Value := dcellsL x.d ++ [.int .i64 x.t, x.v]
def pcl (x y : IV) : List Value := icl x ++ icl y
structure IVok (W : World) (x : IV) (m : Nat) : Prop where
  hd : x.d.length = 32
  hdw : ∀ n ∈ x.d, (Lit.int .u8 n).wf = true
  comps : Comps W x.v x.l
  len : x.l.length ≤ m
theorem IVok.below {W W' : World} {x : IV} {m : Nat} (h : IVok W x m) (hb : Below W.heap.size W W') : IVok W' x m := ⟨h.hd, h.hdw, h.comps.below hb, h.len⟩
theorem icl_len {x : IV} (h : x.d.length = 32) : (icl x).length = 34 := by unfold icl dcellsL; simp [h]
theorem pcl_len {x y : IV} (hx : x.d.length = 32) (hy : y.d.length = 32) : (pcl x y).length = 68 := by unfold pcl; rw [List.length_append, icl_len hx, icl_len hy]
theorem icl_one {x : IV} (h : x.v.oneCell' = true) : ∀ u ∈ icl x, u.oneCell' = true := by
  intro u hu
  unfold icl dcellsL at hu
  simp at hu
  rcases hu with ⟨n, _, rfl⟩ | rfl | rfl
  · rfl
  · rfl
  · exact h
theorem pcl_one {x y : IV} (hx : x.v.oneCell' = true) (hy : y.v.oneCell' = true) : (pcl x y).toArray.all (·.oneCell') = true :=
  all_oneCell_toArray fun u hu => (List.mem_append.1 hu).elim (icl_one hx u) (icl_one hy u)
theorem inv_rangeAll {x : IV} {w : World} {g : Nat} {T : TypeId} (hg : w.heap[g]? = some (.cells (icells x.d x.t x.v) T (0, 0))) : w.rangeAt g 0 (icl x) := fun i u hu => by
  rw [Nat.zero_add, cell_of_row w g i _ _ _ hg]
  show (icl x).toArray[i]? = _
  simpa using hu
theorem load_invR {x : IV} (hx : x.d.length = 32) {w : World} {g off : Nat} (hr : w.rangeAt g off (icl x)) : (Instr.loadAt 27 (.pointer (some ⟨g, off, none⟩))).run Tryz.prog w = .ok (.agg (icells x.d x.t x.v)) w :=
  run_loadAt_mid w g off _ (icl x) _ hr Tryz.underlying27 rfl (by rw [invInfo, icl_len hx])
/-- at the operation: an inventory loaded from some place -/
theorem wl_loadR {ops : Array Oper} {rest : List Oper} {o : Oper} {a : Act} {w : World} {Q : Exit → Act → World → Prop} (hgd : o.guard = none) (y : Operand) (ho : o.op = .load 27 y)
    (g off : Nat) (hy : a.eval y = .pointer (some ⟨g, off, none⟩)) (x : IV) (hx : x.d.length = 32) (hr : w.rangeAt g off (icl x))
    (h : wpList Tryz.prog ops Q rest (a.put o.dst (.agg (icells x.d x.t x.v))) w) : wpList Tryz.prog ops Q (o :: rest) a w :=
  wpList_load_mid hgd _ y ho g off hy (icl x) _ hr Tryz.underlying27 rfl (by rw [invInfo, icl_len hx]) h
/-- .. at an operation whose guard holds -/
theorem wg_loadR {ops : Array Oper} {rest : List Oper} {o : Oper} {a : Act} {w : World} {Q : Exit → Act → World → Prop} (hw : Region.wanted o (yielded ops a.tmps) = true) (y : Operand) (ho : o.op = .load 27 y)
    (g off : Nat) (hy : a.eval y = .pointer (some ⟨g, off, none⟩)) (x : IV) (hx : x.d.length = 32) (hr : w.rangeAt g off (icl x))
    (h : wpList Tryz.prog ops Q rest (a.put o.dst (.agg (icells x.d x.t x.v))) w) : wpList Tryz.prog ops Q (o :: rest) a w :=
  wl_wanted hw fun _ hK => wp_load_mid _ y ho g off hy (icl x) _ hr Tryz.underlying27 rfl (by rw [invInfo, icl_len hx]) (hK _ _ h)
/-- at the operation: an inventory stored into a new block -/
theorem wl_storeI {ops : Array Oper} {rest : List Oper} {o : Oper} {a : Act} {w : World} {Q : Exit → Act → World → Prop} (hgd : o.guard = none) (p y : Operand) (ho : o.op = .store 27 p y)
    (old : Array Value) (hp : a.eval p = .pointer (some ⟨w.heap.size, 0, none⟩)) (x : IV) (hx : x.d.length = 32) (hv : x.v.oneCell' = true) (hy : a.eval y = .agg (icells x.d x.t x.v)) (ho34 : old.size = 34)
    (h : wpList Tryz.prog ops Q rest (a.put o.dst undef) (w.alloc (.cells (icells x.d x.t x.v) 27))) : wpList Tryz.prog ops Q (o :: rest) a (w.alloc (.cells old 27)) := by
  refine wl_storeV hgd p y ho w.heap.size old _ (heap_alloc_new w _) hp x.d x.t x.v hx hv hy ho34 ?_
  rw [set_new]; exact h
end Go.Proofs.YtnhfaincdabdkaaGreatDoor
namespace Go.Proofs.YtnhfaincdabdkaaGreatDoor
open Go.RowKit

theorem ex_getC {P : Program} {o : Oper} {ev : Operand → Value} {w : World} {ty : TypeId} {x : Operand} {b off : Nat} {v : Value} (ho : o.op = .load ty x) (hx : ev x = .pointer (some ⟨b, off, none⟩)) (h : (Instr.loadAt ty (.pointer (some ⟨b, off, none⟩))).run P w = .ok v w) : (execOp ev o).run P w = .ok (.value v) w := ex_load ho hx h
/-- .. a load whose value is known, as a step of a region that draws -/
theorem step_get {ops : Array Oper} {o : Oper} {a : Act} {w : World} {K : Act → World → Prop} {Q : Exit → Act → World → Prop} {E : Prop} (hgd : o.guard = none) (v : Value) (he : (execOp a.eval o).run Tryz.prog w = .ok (.value v) w)
    (h : K (a.put o.dst v) w) : if Region.wanted o (yielded ops a.tmps) = true then Oper.wp Tryz.prog o a w K Q else E := by
  rw [if_pos (by simp [Region.wanted, hgd])]
  unfold Oper.wp
  rw [he]
  exact h
theorem int64_size : (Tryz.prog.info? 2).map (·.size) = some 1 := by kernel_rfl
theorem string_size : (Tryz.prog.info? 9).map (·.size) = some 1 := by kernel_rfl

theorem CRow.addr {w : World} {N : Nat} {v : Value} {l : List V.Comp} (h : CRow w N v l) : v = .slice none 0 0 ∧ l = [] ∨ ∃ g cap cur, v = .slice (some ⟨g, 0, none⟩) l.length cap ∧ N ≤ g ∧ w.heap[g]? = some (.cells cur 88 (0, 0)) := by
  obtain ⟨⟨_, h⟩, _⟩ := h
  rcases h with ⟨rfl, h0⟩ | ⟨g, cap, cur, rfl, hb, hg, _⟩
  · exact .inl ⟨rfl, List.eq_nil_of_length_eq_zero h0⟩
  · exact .inr ⟨g, cap, cur, rfl, hb, hg⟩
/-- a slice of components that lies in another block than the one changed -/
theorem Comps.grow {w w' : World} {v : Value} {l : List V.Comp} {b : Nat} (h : Comps w v l) (hg : w.grownBy w' (some b)) (hne : ∀ a n c, v = .slice (some a) n c → a.block ≠ b) : Comps w' v l := by
  obtain ⟨a, cap, rfl, hat⟩ := h
  refine ⟨a, cap, rfl, fun j hj => ?_⟩
  obtain ⟨hw, g, off, rfl, hlt, hr⟩ := hat j hj
  have hgb := hne _ _ _ rfl
  have hk := hg.block g hlt (fun e => hgb (by cases e; rfl))
  refine ⟨hw, g, off, rfl, Nat.lt_of_lt_of_le hlt hg.size, fun i u hu => ?_⟩
  rw [World.cell?_of_block (a := ⟨g, off + j * 36 + i, none⟩) hk]
  exact hr i u hu

/-- before the result is stored: the inventory in its block -/
structure OEnd (w : World) (b X : Nat) (d : List Int) (t : Int) (v : Value) (l : List V.Comp) (m : Nat) (W : World) : Prop where
  hd : d.length = 32
  hdw : ∀ n ∈ d, (Lit.int .u8 n).wf = true
  inv : W.heap[X]? = some (.cells (icells d t v) 27 (0, 0))
  res : W.heap[X + 1]? = some (.cells (icells zero32 0 (.slice none 0 0)) 27 (0, 0))
  comps : Comps W v l
  apart : ∀ a n c, v = .slice (some a) n c → X + 2 ≤ a.block
  len : l.length ≤ m
  grown : w.grownBy W (some b)
  hX : X = w.heap.size
/-- behind the copy of the components -/
structure OInv (w : World) (b k X : Nat) (d : List Int) (t : Int) (v : Value) (l : List V.Comp) (W : World) : Prop where
  hd : d.length = 32
  hdw : ∀ n ∈ d, (Lit.int .u8 n).wf = true
  inv : W.heap[X]? = some (.cells (icells d t v) 27 (0, 0))
  res : W.heap[X + 1]? = some (.cells (icells zero32 0 (.slice none 0 0)) 27 (0, 0))
  row : CRow W (X + 2) v l
  tape : Tape W b k
  grown : w.grownBy W (some b)
  hb : b < X
  hX : X = w.heap.size
namespace OInv
variable {w : World} {b k X : Nat} {d : List Int} {t : Int} {v : Value} {l : List V.Comp} {W W' : World}
theorem next {k' : Nat} (h : OInv w b k X d t v l W) (hg : W.grownBy W' (some b)) (ht : Tape W' b k') : OInv w b k' X d t v l W' := by
  have hb := h.hb
  refine ⟨h.hd, h.hdw, ?_, ?_, h.row.kept hg (fun b' e => by cases e; omega), ht, World.grownBy.trans h.grown hg, h.hb, h.hX⟩
  · rw [hg.block X (Array.getElem?_eq_some_iff.1 h.inv).1 (by simp; omega)]; exact h.inv
  · rw [hg.block _ (Array.getElem?_eq_some_iff.1 h.res).1 (by simp; omega)]; exact h.res
theorem cell33 (h : OInv w b k X d t v l W) : W.cell? ⟨X, 33, none⟩ = some v := by
  rw [cell_of_row W X 33 _ _ _ h.inv]; exact icells_33 h.hd t v
theorem cell32 (h : OInv w b k X d t v l W) : W.cell? ⟨X, 32, none⟩ = some (.int .i64 t) := by
  rw [cell_of_row W X 32 _ _ _ h.inv]; exact icells_32 h.hd t v
theorem apart (h : OInv w b k X d t v l W) : ∀ a n c, v = .slice (some a) n c → X + 2 ≤ a.block := by
  intro a n c e
  rcases h.row.addr with ⟨e2, _⟩ | ⟨g, cap, cur, e2, hg, _⟩
  · rw [e2] at e; cases e
  · rw [e2] at e; cases e; exact hg
theorem plain (h : OInv w b k X d t v l W) {m : Nat} (hm : l.length ≤ m) : OEnd w b X d t v l m W :=
  ⟨h.hd, h.hdw, h.inv, h.res, h.row.comps, h.apart, hm, h.grown, h.hX⟩
theorem at_ (h : OInv w b k X d t v l W) {g cap : Nat} (hv : v = .slice (some ⟨g, 0, none⟩) l.length cap) {kk : Nat} (hk : kk < l.length) : CompWf l[kk] ∧ W.rangeAt g (kk * 36) (cellsL l[kk]) ∧ (∀ f, W.frozen? ⟨g, f, none⟩ = false) ∧ g < W.heap.size := by
  have hr := h.row.comps
  subst hv
  obtain ⟨hw, b', off, e, hlt, hr⟩ := hr.at kk hk
  cases e
  rw [Nat.zero_add] at hr
  refine ⟨hw, hr, fun f => ?_, hlt⟩
  rcases h.row.addr with ⟨e2, _⟩ | ⟨g', cap', cur, e2, _, hg⟩
  · cases e2
  · cases e2; exact frozen_row hg
theorem cellAt (h : OInv w b k X d t v l W) {g cap : Nat} (hv : v = .slice (some ⟨g, 0, none⟩) l.length cap) {kk : Nat} (hk : kk < l.length) {f : Nat} {u : Value} (hf : (cellsL l[kk])[f]? = some u) : W.cell? ⟨g, kk * 36 + f, none⟩ = some u := (h.at_ hv hk).2.1 f u hf
/-- a component changed -/
theorem changed (h : OInv w b k X d t v l W) {g cap : Nat} (hv : v = .slice (some ⟨g, 0, none⟩) l.length cap) {kk f : Nat} {u : Value} {c : V.Comp} (hk : kk < l.length) (hf : f < 36) (hc : CompWf c) (hcs : cellsL c = (cellsL l[kk]).set f u) {m : Nat} (hm : l.length ≤ m) :
    OEnd w b X d t v (l.set kk c) m (W.setCell ⟨g, kk * 36 + f, none⟩ u) := by
  have hap := h.apart _ _ _ hv
  simp only at hap
  have hX := h.hX
  refine ⟨h.hd, h.hdw, ?_, ?_, ?_, h.apart, by rw [List.length_set]; exact hm, grown_new h.grown (set_grown W g _ u) (by omega), h.hX⟩
  · rw [Below.heap_setCell _ _ _ _ (show X ≠ g by omega)]; exact h.inv
  · rw [Below.heap_setCell _ _ _ _ (show X + 1 ≠ g by omega)]; exact h.res
  · have hr := h.row.comps
    subst hv
    exact hr.setAt hk hf hc hcs
theorem timed (h : OInv w b k X d t v l W) (t' : Int) {m : Nat} (hm : l.length ≤ m) : OEnd w b X d t' v l m (W.setCell ⟨X, 32, none⟩ (.int .i64 t')) := by
  have hX := h.hX
  refine ⟨h.hd, h.hdw, ?_, ?_, ?_, h.apart, hm, grown_new h.grown (set_grown W X _ _) (by omega), h.hX⟩
  · rw [setCell_heap _ _ h.inv, icells_set32 h.hd]
  · rw [Below.heap_setCell _ _ _ _ (show X + 1 ≠ X by omega)]; exact h.res
  · exact h.row.comps.grow (set_grown W X _ _) (fun a n c e => by have := h.apart a n c e; omega)
theorem more (h : OInv w b k X d t v l W) {v' : Value} {l' : List V.Comp} (hr : CRow W' (X + 2) v' l') (hg : W.grownBy W' v.ownBlock) {m : Nat} (hm : l'.length ≤ m) : OEnd w b X d t v' l' m (W'.setCell ⟨X, 33, none⟩ v') := by
  have hX := h.hX
  have hl : ∀ k, k < W.heap.size → v.ownBlock ≠ some k → W'.heap[k]? = W.heap[k]? := fun k hk hb => hg.block k hk (fun e => hb e.symm)
  have hi : W'.heap[X]? = _ := (hl X (Array.getElem?_eq_some_iff.1 h.inv).1 (h.row.ne h.inv (by decide))).trans h.inv
  have hs : W'.heap[X + 1]? = _ := (hl _ (Array.getElem?_eq_some_iff.1 h.res).1 (h.row.ne h.res (by decide))).trans h.res
  have hap : ∀ a n c, v' = .slice (some a) n c → X + 2 ≤ a.block := by
    intro a n c e
    rcases hr.addr with ⟨e2, _⟩ | ⟨g, cap, cur, e2, hg, _⟩
    · rw [e2] at e; cases e
    · rw [e2] at e; cases e; exact hg
  have hgw : w.grownBy W' (some b) := ⟨hg.os.trans h.grown.os, hg.tape.trans h.grown.tape, hg.output.trans h.grown.output, Nat.le_trans h.grown.size hg.size, fun k hk hne =>
    (hl k (Nat.lt_of_lt_of_le hk h.grown.size) (fun e => by have := h.row.block k e; omega)).trans (h.grown.block k hk hne)⟩
  refine ⟨h.hd, h.hdw, ?_, ?_, ?_, hap, hm, grown_new hgw (set_grown W' X _ _) (by omega), h.hX⟩
  · rw [setCell_heap _ _ hi, icells_set33 h.hd]
  · rw [Below.heap_setCell _ _ _ _ (show X + 1 ≠ X by omega)]; exact hs
  · exact hr.comps.grow (set_grown W' X _ _) (fun a n c e => by have := hap a n c e; omega)
theorem zeroed (h : OInv w b k X d t v l W) {m : Nat} (hm : l.length ≤ m) : OEnd w b X zero32 t v l m (W.setCells X 0 (dcellsL zero32)) := by
  have hX := h.hX
  have hg : W.grownBy (W.setCells X 0 (dcellsL zero32)) (some X) := by
    refine ⟨World.os_setCells _ _ _ _, ?_, World.output_setCells _ _ _ _, by rw [size_setCellsZ]; exact Nat.le_refl _, fun k hk hne => World.heap_setCells_other _ _ _ _ hk (fun e => hne (by rw [e]))⟩
    exact (below_setCellsZ (Nat.zero_le X) (dcellsL zero32) 0 W (Below.refl 0 W)).tape
  refine ⟨rfl, by decide, icells_zeroed h.hd t v h.inv, ?_, ?_, h.apart, hm, grown_new h.grown hg (by omega), h.hX⟩
  · rw [hg.block _ (Array.getElem?_eq_some_iff.1 h.res).1 (by simp)]; exact h.res
  · exact h.row.comps.grow hg (fun a n c e => by have := h.apart a n c e; omega)
end OInv

/-- what odd leaves -/
def OddPost (b : Nat) (l : List V.Comp) (w : World) (e : Ending) (w' : World) : Prop :=
  ∃ (d' : List Int) (t' : Int) (v' : Value) (l' : List V.Comp), e = .returned (.agg (icells d' t' v')) ∧ d'.length = 32 ∧ (∀ n ∈ d', (Lit.int .u8 n).wf = true) ∧ Comps w' v' l' ∧ l'.length ≤ l.length + 1 ∧ w.grownBy w' (some b)
theorem OEnd.post {w : World} {b X : Nat} {d : List Int} {t : Int} {v : Value} {l l0 : List V.Comp} {W : World} (h : OEnd w b X d t v l (l0.length + 1) W) {fn : Func} (hfn : fn.results = #[.cell 4 27]) {a : Act} (h4 : a.tmps.getD 4 undef = .pointer (some ⟨X + 1, 0, none⟩)) (h6 : a.defers = []) :
    bodyPost Tryz.prog fn (OddPost b l0 w) .ret a (W.setRow (X + 1) (icells d t v)) := by
  have hX := h.hX
  have hg := setRow_grown W (X + 1) (icells d t v)
  refine bodyPost_ret (results_one hfn h4 (run_loadVar_row _ (X + 1) _ _ _ (0, 0) _ (setRow_heap W _ _ (icells d t v) _ _ h.res) Tryz.underlying27 rfl (by rw [invInfo, icells_size h.hd]))) h6 ?_
  exact ⟨d, t, v, l, rfl, h.hd, h.hdw, h.comps.grow hg (fun a n c e => by have := h.apart a n c e; omega), h.len, grown_new h.grown hg (by omega)⟩
end Go.Proofs.YtnhfaincdabdkaaGreatDoor
