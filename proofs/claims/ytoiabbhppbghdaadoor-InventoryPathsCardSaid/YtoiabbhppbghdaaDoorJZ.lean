/-
  Walk: inventory.Path.
-/
import Derived.Test.YtoiabbhppbghdaaDoorJY
import Derived.Test.YtoiabbhppbghdaaDoorJX
import Derived.Test.YtoiabbhppbghdaaDoorJW
namespace Go.Proofs.YtoiabbhppbghdaaDoor
open Go.RowKit Go.Shelf
attribute [local go_sem] Oper.semAt_some

/-- a row of numbers of one's own -/
def ZRow (w : World) (N : Nat) (v : Value) (l : List Int) : Prop := w.ownsRow N 3 1 v l.length (l.map (Value.int .i64))
theorem ZRow.nil (w : World) (N : Nat) : ZRow w N (.slice none 0 0) [] := ⟨rfl, .inl ⟨rfl, rfl⟩⟩
theorem ZRow.slice {w : World} {N : Nat} {v : Value} {l : List Int} (h : ZRow w N v l) : ∃ a cap, v = .slice a l.length cap := by
  rcases h.2 with ⟨rfl, hn⟩ | ⟨g, cap, cur, rfl, _⟩
  · exact ⟨none, 0, by rw [hn]⟩
  · exact ⟨_, cap, rfl⟩
theorem ZRow.block {w : World} {N : Nat} {v : Value} {l : List Int} (h : ZRow w N v l) : ∀ b, v.ownBlock = some b → N ≤ b := by
  intro b hb
  rcases h.2 with ⟨rfl, _⟩ | ⟨g, cap, cur, rfl, hbb, _⟩
  · cases hb
  · simp [Value.ownBlock] at hb; omega
theorem ZRow.cellsAt {w : World} {N : Nat} {v : Value} {l : List Int} (h : ZRow w N v l) : ∀ g, v.ownBlock = some g → ∃ cur, w.heap[g]? = some (.cells cur 3 (0, 0)) := by
  intro b hb
  rcases h.2 with ⟨rfl, _⟩ | ⟨g, cap, cur, rfl, _, hg, _⟩
  · cases hb
  · simp [Value.ownBlock] at hb
    subst hb
    exact ⟨cur, hg⟩
theorem ZRow.kept {w w' : World} {N : Nat} {v : Value} {l : List Int} (h : ZRow w N v l) {row : Option Nat} (hg : w.grownBy w' row) (hr : ∀ b, row = some b → v.ownBlock ≠ some b) : ZRow w' N v l := by
  obtain ⟨hx, h⟩ := h
  refine ⟨hx, ?_⟩
  rcases h with h | ⟨g, cap, cur, rfl, hb, hgg, rest⟩
  · exact .inl h
  · refine .inr ⟨g, cap, cur, rfl, hb, ?_, rest⟩
    rw [hg.block g (Array.getElem?_eq_some_iff.1 hgg).1 (fun e => hr g e.symm rfl)]
    exact hgg
theorem ZRow.keeps {w w' : World} {N : Nat} {v : Value} {l : List Int} (h : ZRow w N v l) (hg : w.grownBy w' v.ownBlock) : KeepsOthers w w' :=
  ⟨hg.size, fun k o hk ho => (hg.block k (Array.getElem?_eq_some_iff.1 hk).1 (fun e => by
    obtain ⟨cur, hc⟩ := h.cellsAt k e.symm
    rw [hc] at hk
    cases hk
    cases ho)).trans hk⟩
/-- a slice that reads as some numbers -/
def Zs (w : World) (v : Value) (l : List Int) : Prop :=
  ∃ a cap, v = .slice a l.length cap ∧ ∀ j (h : j < l.length), ∃ b off, a = some ⟨b, off, none⟩ ∧ b < w.heap.size ∧ w.cell? ⟨b, off + j, none⟩ = some (.int .i64 l[j])
theorem Zs.nil (w : World) : Zs w (.slice none 0 0) [] := ⟨none, 0, rfl, fun j h => by simp at h⟩

theorem size_setCellsZ (g : Nat) : ∀ (vs : List Value) (o : Nat) (w : World), (w.setCells g o vs).heap.size = w.heap.size
  | [], _, _ => rfl
  | v :: r, o, w => by
    show ((w.setCell ⟨g, o, none⟩ v).setCells g (o + 1) r).heap.size = w.heap.size
    rw [size_setCellsZ g r]; simp
theorem below_setCellsZ {B g : Nat} {a : World} (hg : B ≤ g) : ∀ (vs : List Value) (o : Nat) (w : World), Below B a w → Below B a (w.setCells g o vs)
  | [], _, _, h => h
  | v :: r, o, _, h => below_setCellsZ hg r (o + 1) _ (h.setCell (p := ⟨g, o, none⟩) hg v)

/-- in a fence: a number appended -/
theorem wi_appendZ {F : Fence} {n : Nat} {ops : Array Oper} {rest : List Oper} {o : Oper} {a : Act} {w : World} {Q : Exit → Act → World → Prop} (hgd : o.guard = none) (s x : Operand)
    (ho : o.op = .call { callee := .builtin .append, args := #[s, x], argTypes := #[27, 27] })
    (N : Nat) (v : Value) (l : List Int) (hs : a.eval s = v) (hown : ZRow w N v l) (b : Nat) (i : Int) (hx : a.eval x = .slice (some ⟨b, 0, none⟩) 1 1) (hr : w.cell? ⟨b, 0, none⟩ = some (.int .i64 i)) (hl : l.length ≤ 1000000) (hN : N ≤ w.heap.size)
    (h : ∀ v' w', ZRow w' N v' (l ++ [i]) → w.grownBy w' v.ownBlock → wpListIn F n Tryd.prog ops Q rest (a.put o.dst v') w') : wpListIn F n Tryd.prog ops Q (o :: rest) a w := by
  obtain ⟨i0, hi, hz0, hz1, hz2⟩ := info_parts info_int19
  refine wpListIn_append_own w hgd s x 27 ho N 3 i0 (.int .i64 0) 1 8 Tryd.underlying27 hi hz0 hz1 hz2 rfl (by decide) v l.length _ hs hown ⟨b, 0, none⟩ 1 1 [.int .i64 i] hx rfl ?_ ?_ (by unfold maxLen; omega) (by omega) hN ?_
  · intro j u hj
    have : j = 0 := by
      have := (List.getElem?_eq_some_iff.1 hj).1
      simpa using this
    subst this
    rw [Addr.add_mid]
    simpa [hr] using hj
  · intro u hu
    rw [List.mem_singleton.1 hu]; rfl
  · intro v' w' ho' hg _
    refine h v' w' ?_ hg
    unfold ZRow
    rw [List.length_append, List.map_append]
    exact ho'
/-- in a fence: an inventory loaded -/
theorem wi_loadI {F : Fence} {n : Nat} {ops : Array Oper} {rest : List Oper} {o : Oper} {a : Act} {w : World} {Q : Exit → Act → World → Prop} (hgd : o.guard = none) (x : Operand) (ho : o.op = .load 26 x)
    (g : Nat) (t : TypeId) (hx : a.eval x = .pointer (some ⟨g, 0, none⟩)) (cs : Array Value) (hcs : cs.size = 34) (hgr : w.heap[g]? = some (.cells cs t (0, 0)))
    (h : wpListIn F n Tryd.prog ops Q rest (a.put o.dst (.agg cs)) w) : wpListIn F n Tryd.prog ops Q (o :: rest) a w := by
  refine wpListIn_plain hgd fun K hK => ?_
  have hrun : (execOp a.eval o).run Tryd.prog w = .ok (.value (.agg cs)) w := by
    unfold execOp
    simp only [ho, hx, Instr.loadAt, Instr.sureAddr, Sem.run_bind, Sem.run_pure, Result.andThen_ok, run_loadVar_row w g t 26 cs (0, 0) _ hgr Tryd.underlying26 rfl (by rw [invInfo, hcs])]
  unfold Oper.wpIn
  refine ⟨by simp [Oper.about, ho], ?_⟩
  rw [Oper.semAt_plain F _ _ (by rw [ho]; intro c hc'; cases hc'), hrun]
  exact hK _ _ h

set_option maxRecDepth 100000 in
set_option maxHeartbeats 400000 in
theorem ancestors_any (ic : Array Value) (i : Int) (w : World) :
    Calls Tryd.prog 25 #[.agg ic, .int .i64 i] w fun e w' =>
      e = .returned (.func (.func 47) #[] #[.pointer (some ⟨w.heap.size + 1, 0, none⟩), .pointer (some ⟨w.heap.size, 0, none⟩)]) ∧
      w' = (w.alloc (.cells ic 26)).alloc (.cells #[.int .i64 i] 3) := by
  go_enter Tryd.func25, Tryd.ntmps25
  go_wp2
  go_ret
  exact ⟨rfl, rfl⟩

def PathPost (l : List V.Comp) (ok : Bool) (i : Int) (w : World) (e : Ending) (w' : World) : Prop :=
  ∃ v, e = .returned v ∧ Zs w' v (if ok = true ∧ 0 ≤ i ∧ i < l.length then (V.anc l i).reverse else []) ∧ Below w.heap.size w w'

set_option maxRecDepth 100000 in
set_option maxHeartbeats 3200000 in
theorem path_in (d : List Int) (time : Int) (v : Value) (l : List V.Comp) (i : Int) (w : World) (hm : MaxOk w) (hd : d.length = 32) (hdw : ∀ n ∈ d, (Lit.int .u8 n).wf = true) (hv : Comps w v l) (hl : l.length ≤ 100000) :
    CallsIn Fence.wide 6 Tryd.prog 8 #[.agg (icells d time v), .int .i64 i] w (PathPost l (V.invOk d time l) i w) := by
  have HM := Lib.hid hm
  have HL := Lib.hid hv
  have HD := Lib.hid hd
  have HDW := Lib.hid hdw
  have h33 := icells_33 hd time v
  have HSZ := Lib.hid (icells_size hd time v)
  obtain ⟨va, vc, rfl, hjunk⟩ := hv
  clear hd hdw hjunk hm
  refine callsIn_of_wp_marks Tryd.func8 rfl trivial ?_ rfl
  simp only [Tryd.ntmps8, List.size_toArray, List.length_cons, List.length_nil, Nat.reduceAdd, Nat.reduceSub, Array.replicate_succ, Array.replicate_zero, List.push_toArray, List.append_toArray, List.nil_append, List.cons_append]
  gi_wp2_with (first | (refine wi_loadI rfl _ rfl w.heap.size _ rfl (icells d time (.slice va l.length vc)) HSZ.out (heap_alloc_new w _) ?_) | fail)
  refine ⟨trivial, (callsIn_wide.2 (valid19_any d time (.slice va l.length vc) l _ (HM.out.below ((Below.refl _ w).alloc (Nat.le_refl _) _)) HD.out HDW.out (HL.out.below ((Below.refl _ w).alloc (Nat.le_refl _) _)) (by unfold maxLen; omega))).mono ?_⟩
  rintro e w1 ⟨rfl, hb1⟩
  have hb0 := (Below.refl w.heap.size w).alloc (Nat.le_refl _) (.cells (icells d time (.slice va l.length vc)) 26)
  have HB1 := Lib.hid (hb0.trans (hb1.mono hb0.size))
  have hg1 : w1.heap[w.heap.size]? = some (.cells (icells d time (.slice va l.length vc)) 26 (0, 0)) := (hb1.block _ (by simp)).trans (heap_alloc_new w _)
  have hz1 : w.heap.size < w1.heap.size := Nat.lt_of_lt_of_le (by simp) hb1.size
  have HVO : Hid (V.invOk d time l = true → V.compsTo l l.length = true) := Lib.hid (fun h => by unfold V.invOk at h; exact (Bool.and_eq_true_iff.1 h).2)
  clear hb0 hb1
  generalize V.invOk d time l = ok at *
  rcases ok with _ | _
  · gi_wp2
    refine ⟨.slice none 0 0, by simp [results, Tryd.f8, go_sem], _, rfl, ?_, HB1.out⟩
    rw [if_neg (by simp)]
    exact Zs.nil _
  · have HO := Lib.hid (HVO.out rfl)
    have hc33 : w1.cell? ⟨w.heap.size, 33, none⟩ = some (.slice va l.length vc) := by rw [cell_of_row w1 w.heap.size 33 _ _ _ hg1]; exact h33
    by_cases hi0 : i < 0
    · gi_wp2
      refine ⟨.slice none 0 0, by simp [results, Tryd.f8, go_sem], _, rfl, ?_, HB1.out⟩
      rw [if_neg (by omega)]
      exact Zs.nil _
    · by_cases hil : (l.length : Int) ≤ i
      · gi_wp2
        refine ⟨.slice none 0 0, by simp [results, Tryd.f8, go_sem], _, rfl, ?_, HB1.out⟩
        rw [if_neg (by omega)]
        exact Zs.nil _
      · have HG2 : Hid ((w1.alloc (.cells #[.slice none 0 0] 27)).heap[w.heap.size]? = some (.cells (icells d time (.slice va l.length vc)) 26 (0, 0))) := Lib.hid ((Below.heap_alloc _ _ _ hz1).trans hg1)
        gi_wp2_with (first | (refine wi_loadI rfl _ rfl w.heap.size _ rfl (icells d time (.slice va l.length vc)) HSZ.out HG2.out ?_) | fail)
        refine ⟨trivial, (callsIn_wide.2 (ancestors_any _ i _)).mono ?_⟩
        rintro e w' ⟨rfl, rfl⟩
        gi_wp2
        obtain ⟨O, hO⟩ : ∃ O, O = w1.heap.size := ⟨_, rfl⟩
        obtain ⟨W0, hW0⟩ : ∃ W0, W0 = ((w1.alloc (.cells #[.slice none 0 0] 27)).alloc (.cells (icells d time (.slice va l.length vc)) 26)).alloc (.cells #[.int .i64 i] 3) := ⟨_, rfl⟩
        rw [← hW0, ← hO]
        have hsz : W0.heap.size = O + 3 := by rw [hW0, hO]; simp
        have hBw : Below w1.heap.size w1 W0 := by
          rw [hW0]
          exact (((Below.refl _ w1).alloc (Nat.le_refl _) _).alloc (by simp) _).alloc (by simp; omega) _
        have hB0 : Below w.heap.size w W0 := HB1.out.trans (hBw.mono HB1.out.size)
        have c0 : W0.cell? ⟨O, 0, none⟩ = some (.slice none 0 0) := by
          rw [hW0, hO]; simp only [cell_alloc, World.size_alloc]; repeat (first | rw [if_pos (by omega)] | rw [if_neg (by omega)])
          rfl
        have f0 : W0.frozen? ⟨O, 0, none⟩ = false := by
          rw [hW0, hO]; simp only [frozen_alloc, World.size_alloc]; repeat (first | rw [if_pos (by omega)] | rw [if_neg (by omega)])
          rfl
        have c1 : W0.cell? ⟨O + 1, 33, none⟩ = some (.slice va l.length vc) := by
          rw [hW0, hO]; simp only [cell_alloc, World.size_alloc]; repeat (first | rw [if_pos (by omega)] | rw [if_neg (by omega)])
          exact h33
        have c2 : W0.cell? ⟨O + 1 + 1, 0, none⟩ = some (.int .i64 i) := by
          rw [hW0, hO]; simp only [cell_alloc, World.size_alloc]; repeat (first | rw [if_pos (by omega)] | rw [if_neg (by omega)])
          rfl
        have f2 : W0.frozen? ⟨O + 1 + 1, 0, none⟩ = false := by
          rw [hW0, hO]; simp only [frozen_alloc, World.size_alloc]; repeat (first | rw [if_pos (by omega)] | rw [if_neg (by omega)])
          rfl
        have hwO : w.heap.size < O := by omega
        have hCI : CompsIn W0 (O + 1) O (.slice va l.length vc) l := by
          obtain ⟨a', c', e', hat⟩ := HL.out
          refine ⟨a', c', e', fun j hj => ?_⟩
          obtain ⟨hw, b, off, ea, hlt, hr⟩ := hat j hj
          exact ⟨hw, b, off, ea, by omega, by omega, rangeAt_below hr hB0⟩
        clear hW0 hO hBw hg1 hz1 hc33
        refine wpIn_range_handsP (b := O + 1 + 1) rfl (by omega) (gf := 47)
          (lb := #[.pointer (some ⟨O + 1 + 1, 0, none⟩), .pointer (some ⟨O + 1, 0, none⟩)])
          rfl trivial (enters_of Tryd.func47 (by kernel_rfl) rfl) (by omega)
          (anc1_seq 5 (by omega) (O + 1) O (.slice va l.length vc) l HO.out hl i (by omega) (by omega) (by omega) W0 (by omega) c2 f2 c1 hCI)
          (fun h k => ⟨Nat.le_trans h.1 k.1, fun q hq hqo => (k.2 q hq hqo).trans (h.2 q hq hqo)⟩)
          (fun W q o o' hq ho _ _ => ⟨by have := grownBy_putObj' W q o'; exact this.size, fun k hk _ => (grownBy_putObj' W q o').block k (by have := (Array.getElem?_eq_some_iff.1 ho).1; omega) (by simp; omega)⟩)
          (fun _ => rfl)
          (I := fun pre W => (∃ ov, W.cell? ⟨O, 0, none⟩ = some ov ∧ W.frozen? ⟨O, 0, none⟩ = false ∧ O + 3 ≤ W.heap.size ∧ ZRow W (O + 3) ov pre) ∧ Below w.heap.size w W)
          (Ix := fun _ _ _ => False)
          (act := fun x => { tmps := #[.agg (icells d time (.slice va l.length vc)), .int .i64 i, .pointer (some ⟨w.heap.size, 0, none⟩), undef, .slice none 0 0, .pointer (some ⟨O, 0, none⟩), .int .i64 x,
            .agg (icells d time (.slice va l.length vc)), .bool true, .bool false, .bool false, .int .i64 i, .bool (decide (i < 0)), .bool (decide (i < 0)), .bool (decide (i < 0)), .int .i64 i, .pointer (some ⟨w.heap.size, 33, none⟩), .slice va l.length vc,
            .int .i64 l.length, .bool (decide ((l.length : Int) ≤ i)), .bool (decide (i < 0) || decide ((l.length : Int) ≤ i)), .agg (icells d time (.slice va l.length vc)), .int .i64 i,
            .func (.func 47) #[] #[.pointer (some ⟨O + 1 + 1, 0, none⟩), .pointer (some ⟨O + 1, 0, none⟩)], .int .i64 x, undef, undef, undef, undef, undef, undef, undef], defers := [] })
          ⟨?own, ?ownx, ?state, ?assign, ?body⟩ ⟨⟨_, c0, f0, by omega, ZRow.nil _ _⟩, hB0⟩ ?done ?stop
        case own =>
          refine OwnFrom.and (Own.from (fun s A B row hs hg hr => ?_) _) (ownFrom_below (Nat.le_refl _) (by omega))
          obtain ⟨ov, h1, h2, h4, h3⟩ := hs
          refine ⟨ov, cell_kept h1 hg hr, (frozen_kept h1 hg hr).trans h2, Nat.le_trans h4 hg.size, h3.kept hg (fun b hb e => ?_)⟩
          obtain ⟨o, ho1, ho2⟩ := hr b hb
          obtain ⟨cur, hcur⟩ := h3.cellsAt b e
          rw [hcur] at ho1
          cases ho1
          cases ho2
        case ownx => exact fun c s A B row hs _ _ => hs
        case state =>
          rintro s A u ⟨⟨ov, h1, h2, h4, h3⟩, hB⟩
          refine ⟨⟨ov, by rw [World.cell?_setCell_other _ _ _ _ (by simp)]; exact h1, by rw [World.frozen?_setCell]; exact h2, Nat.le_trans h4 (set_grown A (O + 1 + 1) 0 u).size, h3.kept (set_grown A (O + 1 + 1) 0 u) (fun b hb e => by cases hb; have := h3.block _ e; omega)⟩, hB.setCell (p := ⟨O + 1 + 1, 0, none⟩) (by show w.heap.size ≤ O + 1 + 1; omega) _⟩
        case assign =>
          intro l x W K hK
          gi_wp2
          exact hK
        case body =>
          rintro lp pre x W ⟨⟨ov, h1, h2, h4, h3⟩, hB⟩ hlen
          have hblk := h3.block
          obtain ⟨za, zc, hov⟩ := h3.slice
          subst hov
          have HB := Lib.hid hB
          have HZ2 : Hid (ZRow (W.alloc (.cells #[.int .i64 x] 3)) (O + 3) (.slice za pre.length zc) pre) := Lib.hid (h3.kept (row := none) (World.grownBy_alloc W _ none) (by intro b' e; cases e))
          have HCE : Hid ((W.alloc (.cells #[.int .i64 x] 3)).cell? ⟨W.heap.size, 0, none⟩ = some (.int .i64 x)) := Lib.hid (by rw [cell_alloc, if_pos (by simp)]; rfl)
          have hO2 : (W.alloc (.cells #[.int .i64 x] 3)).heap[O]? = W.heap[O]? := Below.heap_alloc _ _ _ (by omega)
          have HO2 := Lib.hid hO2
          clear h3 hB hO2
          gi_wp2_with (first | (refine wi_appendZ rfl _ _ rfl (O + 3) (.slice za pre.length zc) pre rfl HZ2.out W.heap.size x rfl HCE.out (by omega) (by simp; omega) ?_
                                intro v' w3 hi3 hg3
                                have hO3 : w3.heap[O]? = W.heap[O]? := (hg3.block O (by simp; omega) (fun e => by have := hblk O e.symm; omega)).trans HO2.out
                                have c3 : w3.cell? ⟨O, 0, none⟩ = some (.slice za pre.length zc) := by rw [← h1]; unfold World.cell?; rw [hO3]
                                have f3 : w3.frozen? ⟨O, 0, none⟩ = false := by rw [← h2]; unfold World.frozen?; rw [hO3]
                                obtain ⟨va', vc', hv'⟩ := hi3.slice
                                subst hv'
                                have hL3 : (pre ++ [x]).length = pre.length + 1 := by simp
                                rw [hL3] at hi3
                                have HI3 := Lib.hid hi3
                                have HG3 := Lib.hid hg3
                                clear hi3 hg3 hO3) | fail)
          have hk3 : KeepsOthers W w3 := (KeepsOthers.alloc W _).trans (HZ2.out.keeps HG3.out)
          have hs3 : W.heap.size ≤ w3.heap.size := hk3.size
          have hb3 : Below w.heap.size w w3 := by
            have hBa : Below w.heap.size w (W.alloc (.cells #[.int .i64 x] 3)) := HB.out.alloc HB.out.size _
            exact ⟨HG3.out.os.trans hBa.os, HG3.out.tape.trans hBa.tape, HG3.out.output.trans hBa.output, Nat.le_trans hBa.size HG3.out.size, fun q hq => (HG3.out.block q (Nat.lt_of_lt_of_le hq hBa.size) (fun e => by have := hblk q e.symm; omega)).trans (hBa.block q hq)⟩
          have hz3 : (w3.setCell ⟨O, 0, none⟩ (.slice va' (pre.length + 1) vc')).heap.size = w3.heap.size := by simp [World.setCell]
          refine ⟨hk3.trans (KeepsOthers.setCell _ _ _), ⟨by omega, fun q hq hqo => ?_⟩, ⟨_, World.cell?_setCell_same _ _ _ c3, by rw [World.frozen?_setCell]; exact f3, by omega, ?_⟩, hb3.setCell (p := ⟨O, 0, none⟩) (by show w.heap.size ≤ O; omega) _⟩
          · rw [Below.heap_setCell _ _ _ _ (by show q ≠ O; exact hqo)]
            exact (HG3.out.block q (by simp; omega) (fun e => by have := hblk q e.symm; omega)).trans (Below.heap_alloc _ _ _ (by omega))
          · exact HI3.out.kept (set_grown w3 O 0 _) (fun b hb e => by cases hb; have := HI3.out.block _ e; omega)
        case done =>
          rintro D ys W hD rfl ⟨⟨ov, h1, h2, h4, h3⟩, hB⟩ hK
          have hlen := V.anc_len HO.out i (by omega)
          have hne : 0 < (V.anc l i).length := by
            obtain ⟨k, rfl⟩ := Int.eq_ofNat_of_zero_le (show 0 ≤ i by omega)
            rw [V.anc_step HO.out (show k < l.length by omega)]; simp
          generalize hys : V.anc l i = ys at *
          obtain ⟨hyl, ⟨rfl, hn⟩ | ⟨g, cap, cur, rfl, hgb, hgg, hnc, hcap, hcs, hct⟩⟩ := h3
          · omega
          · have HGG := Lib.hid hgg
            have hgl : g < W.heap.size := (Array.getElem?_eq_some_iff.1 hgg).1
            have hcell : ∀ j, j < ys.length → W.cell? ⟨g, 0 + j, none⟩ = some (.int .i64 (ys.getD j 0)) := by
              intro j hj
              rw [cell_of_row W g (0 + j) _ _ _ hgg, Nat.zero_add]
              have h5 : cur.toList[j]? = (cur.toList.take (ys.length * 1))[j]? := by rw [List.getElem?_take, if_pos (by omega)]
              rw [← Array.getElem?_toList, h5, hct, List.getElem?_map, List.getElem?_eq_getElem hj]
              simp [List.getD, List.getElem?_eq_getElem hj]
            have hfr : ∀ j, j < ys.length → W.frozen? ⟨g, 0 + j, none⟩ = false := by
              intro j hj
              unfold World.frozen?
              simp [hgg]
            have HCL := Lib.hid hcell
            have HFR := Lib.hid hfr
            have HB := Lib.hid hB
            have HK := Lib.hid hK
            clear hyl hct hcell hfr hB hcs hgg
            gi_wp2_with fail
            refine ⟨trivial, (callsIn_wide.2 (Tryd.slices_Reverse_int_cells g 0 ys.length cap ys _ (Nat.le_refl _) (by omega) HCL.out HFR.out)).mono ?_⟩
            rintro e w' ⟨rfl, q, hw'⟩
            rw [List.take_length] at hw'
            have hcO : w'.cell? ⟨O, 0, none⟩ = some (.slice (some ⟨g, 0, none⟩) ys.length cap) := by
              rw [hw', World.cell?_setCells_out _ _ _ _ _ (fun e _ => by have : O = g := e; omega)]; exact h1
            have hz' : w'.heap.size = W.heap.size := by rw [hw', size_setCellsZ]; rfl
            have hKD : w'.heap[D]? = some (.deferred (some [])) := by
              have hDl : D < W.heap.size := (Array.getElem?_eq_some_iff.1 HK.out).1
              rw [hw', World.heap_setCells_other _ _ _ _ (by exact hDl) (fun e => by subst e; have := HGG.out.symm.trans HK.out; cases this)]
              exact HK.out
            have HBW : Hid (Below w.heap.size w w') := Lib.hid (by
              rw [hw']
              exact below_setCellsZ (by omega) _ _ _ ⟨HB.out.os, HB.out.tape, HB.out.output, HB.out.size, HB.out.block⟩)
            have HZV : Hid (∀ j (h : j < ys.reverse.length), w'.cell? ⟨g, 0 + j, none⟩ = some (.int .i64 ys.reverse[j])) := Lib.hid (by
              intro j hj
              have hj' : j < (ys.reverse.map (Value.int .i64)).length := by simpa using hj
              rw [hw', World.cell?_setCells_in g _ 0 _ (fun k hk => ?_) j hj']
              · simp
              · rw [World.cell?_drewN, HCL.out k (by simpa using hk)]; rfl)
            clear hw' h1 h2 h4 HK HB HCL HFR HGG
            gi_wp2
            refine ⟨by simp, .inl ⟨_, _, rfl, run_takeDeferred hKD, ?_⟩⟩
            refine ⟨.slice (some ⟨g, 0, none⟩) ys.length cap, by simp [results, Tryd.f8, go_sem], ?_⟩
            refine ⟨_, rfl, ?_, HBW.out.trans (belowK_b (w := w) (Nat.le_refl _) _ D _ _ (by omega) hKD rfl rfl)⟩
            rw [if_pos ⟨rfl, by omega, by omega⟩, hys]
            refine ⟨some ⟨g, 0, none⟩, cap, by rw [List.length_reverse], fun j hj => ⟨g, 0, rfl, ?_, ?_⟩⟩
            · have := (grownBy_putObj' w' D (.deferred none)).size
              omega
            · exact cell_kept (HZV.out j hj) (grownBy_putObj' _ D (.deferred none)) (fun r e => by cases e; exact ⟨_, hKD, rfl⟩)
        case stop =>
          rintro D c pre W hD hpre hx hK
          exact hx.elim

theorem ipath_any (d : List Int) (time : Int) (v : Value) (l : List V.Comp) (i : Int) (w : World) (hm : MaxOk w) (hd : d.length = 32) (hdw : ∀ n ∈ d, (Lit.int .u8 n).wf = true) (hv : Comps w v l) (hl : l.length ≤ 100000) :
    Calls Tryd.prog 8 #[.agg (icells d time v), .int .i64 i] w (PathPost l (V.invOk d time l) i w) :=
  callsIn_wide.1 (path_in d time v l i w hm hd hdw hv hl)
end Go.Proofs.YtoiabbhppbghdaaDoor
