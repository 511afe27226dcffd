/-
  Walk: findings.Open.
-/
import Derived.Test.YtoiabbhppbghdaaFB
import Derived.OrdersHeld
namespace Go.Proofs.Ytoiabbhppbghdaa
open Go.RowKit

theorem ex_load {P : Program} {o : Oper} {ev : Operand → Value} {w : World} {ty : TypeId} {x : Operand} {p v : Value} (ho : o.op = .load ty x) (hx : ev x = p) (h : (Instr.loadAt ty p).run P w = .ok v w) : (execOp ev o).run P w = .ok (.value v) w := by
  unfold execOp
  simp only [ho, hx, Sem.run_bind, h, Result.andThen_ok, Sem.run_pure]
theorem step_get {ops : Array Oper} {o : Oper} {a : Act} {w : World} {K : Act → World → Prop} {Q : Exit → Act → World → Prop} {E : Prop} (hgd : o.guard = none) (v : Value) (he : (execOp a.eval o).run Try.prog w = .ok (.value v) w)
    (h : K (a.put o.dst v) w) : if Region.wanted o (yielded ops a.tmps) = true then Oper.wp Try.prog o a w K Q else E := by
  rw [if_pos (by simp [Region.wanted, hgd])]
  unfold Oper.wp
  rw [he]
  exact h
theorem step_set {ops : Array Oper} {o : Oper} {a : Act} {w : World} {K : Act → World → Prop} {Q : Exit → Act → World → Prop} {E : Prop} (hgd : o.guard = none) (ty : TypeId) (x y : Operand) (ho : o.op = .store ty x y)
    (b off : Nat) (hx : a.eval x = .pointer (some ⟨b, off, none⟩)) (v : Value) (hy : a.eval y = v) (u : Value) (hc : w.cell? ⟨b, off, none⟩ = some u) (hf : w.frozen? ⟨b, off, none⟩ = false) (hi : (Try.prog.info? ty).map (·.size) = some 1) (h1 : v.oneCell' = true)
    (h : K (a.put o.dst undef) (w.setCell ⟨b, off, none⟩ v)) : if Region.wanted o (yielded ops a.tmps) = true then Oper.wp Try.prog o a w K Q else E := by
  rw [if_pos (by simp [Region.wanted, hgd])]
  unfold Oper.wp execOp
  simp only [ho, hx, hy, Instr.storeAt, Instr.sureAddr, Sem.run_bind, Sem.run_pure, Result.andThen_ok, run_set hc hf hi h1]
  exact h
theorem digs_size : (Try.prog.info? 55).map (·.size) = some 1 := by kernel_rfl
theorem findIE3 : ∃ ie z, Try.prog.info? 64 = some ie ∧ ie.zero = some z ∧ ie.size = 39 ∧ ie.bytes = 128 ∧ z.cells.size = 39 := by
  have h : (match Try.prog.info? 64 with | some i => i.size == 39 && (i.bytes == 128 && (match i.zero with | some z => z.cells.size == 39 | none => false)) | none => false) = true := by kernel_rfl
  cases hq : Try.prog.info? 64 with
  | none => rw [hq] at h; cases h
  | some i =>
    rw [hq] at h
    simp only [Bool.and_eq_true, beq_iff_eq] at h
    obtain ⟨h1, h2, h3⟩ := h
    cases hz : i.zero with
    | none => rw [hz] at h3; cases h3
    | some z =>
      rw [hz] at h3
      exact ⟨i, z, rfl, hz, h1, h2, by simpa using h3⟩
theorem wl_build1F {ops : Array Oper} {rest : List Oper} {o : Oper} {a : Act} {w : World} {Q : Exit → Act → World → Prop} (hgd : o.guard = none) (e1 : Operand) (ho : o.op = .buildSlice 26 1 #[(0, e1)])
    (x : FV) (hx : DigOk x.f.inv) (h1 : a.eval e1 = .agg (fcells x))
    (h : wpList Try.prog ops Q rest (a.put o.dst (.slice (some ⟨w.heap.size, 0, none⟩) 1 1)) (w.alloc (.cells (fcells x) 64))) : wpList Try.prog ops Q (o :: rest) a w := by
  obtain ⟨ie, z, hie, hz, hsz, _, _⟩ := findIE3
  refine wpList_buildSlice hgd _ 64 1 _ ho (fcells x) ie z Try.underlying26 hie hz (by rw [hsz]; decide) (by rw [hsz]; decide) ?_ h
  have := Great.fill_whole (s := 39) (by decide) [Value.agg (fcells x)] ((Array.range (1 * ie.size)).map (z.cells[· % z.cells.size]!)) (fun v hv => by
    rcases List.mem_cons.1 hv with rfl | hv
    · exact fcells_size hx
    · cases hv) (by rw [hsz]; simp)
  rw [hsz] at this ⊢
  simp only [h1, List.map_toArray, List.map_cons, List.map_nil]
  exact this.trans (by simp [Value.cells])
/-- a row of findings of one's own -/
def FRow (w : World) (N : Nat) (v : Value) (xs : List FV) : Prop := w.ownsRow N 64 39 v xs.length (xs.flatMap fl)
theorem FRow.nil (w : World) (N : Nat) : FRow w N (.slice none 0 0) [] := ⟨rfl, .inl ⟨rfl, rfl⟩⟩
theorem FRow.slice {w : World} {N : Nat} {v : Value} {xs : List FV} (h : FRow w N v xs) : ∃ a cap, v = .slice a xs.length cap := by
  rcases h.2 with ⟨rfl, hn⟩ | ⟨g, cap, cur, rfl, _⟩
  · exact ⟨none, 0, by rw [hn]⟩
  · exact ⟨_, cap, rfl⟩
theorem FRow.block {w : World} {N : Nat} {v : Value} {xs : List FV} (h : FRow w N v xs) {g : Nat} (hb : v.ownBlock = some g) : N ≤ g ∧ ∃ cur, w.heap[g]? = some (.cells cur 64 (0, 0)) := by
  rcases h.2 with ⟨rfl, _⟩ | ⟨g', cap, cur, rfl, hN, hg, _⟩
  · cases hb
  · simp [Value.ownBlock] at hb
    subst hb
    exact ⟨hN, cur, hg⟩
theorem FRow.kept {w w' : World} {N : Nat} {v : Value} {xs : List FV} (h : FRow w N v xs) {row : Option Nat} (hg : w.grownBy w' row) (hr : ∀ b, row = some b → v.ownBlock ≠ some b) : FRow w' N v xs := by
  obtain ⟨hx, h⟩ := h
  refine ⟨hx, ?_⟩
  rcases h with h | ⟨g, cap, cur, rfl, hb, hgg, rest⟩
  · exact .inl h
  · refine .inr ⟨g, cap, cur, rfl, hb, ?_, rest⟩
    rw [hg.block g (Array.getElem?_eq_some_iff.1 hgg).1 (fun e => hr g e.symm rfl)]
    exact hgg
theorem wl_append1F {ops : Array Oper} {rest : List Oper} {o : Oper} {a : Act} {w : World} {Q : Exit → Act → World → Prop} (hgd : o.guard = none) (s x : Operand)
    (ho : o.op = .call { callee := .builtin .append, args := #[s, x], argTypes := #[26, 26] })
    (N : Nat) (v : Value) (xs : List FV) (hs : a.eval s = v) (hown : FRow w N v xs) (b : Nat) (y : FV) (hy : FOk w y) (hx : a.eval x = .slice (some ⟨b, 0, none⟩) 1 1) (hr : w.rangeAt b 0 (fl y)) (hl : xs.length ≤ 100000) (hN : N ≤ w.heap.size)
    (h : ∀ v' w', FRow w' N v' (xs ++ [y]) → w.grownBy w' v.ownBlock → wpList Try.prog ops Q rest (a.put o.dst v') w') : wpList Try.prog ops Q (o :: rest) a w := by
  obtain ⟨ie, z, hi, hz, h1, h2, h3⟩ := findIE3
  refine wpList_append_own w hgd s x 26 ho N 64 ie z 39 128 Try.underlying26 hi hz h1 h2 h3 (by decide) v xs.length _ hs hown ⟨b, 0, none⟩ 1 1 (fl y) hx (by rw [fl_len hy.inv]) ?_ (fl_one hy) (by unfold maxLen; omega) (by omega) hN ?_
  · intro j u hj
    rw [Addr.add_mid]
    exact hr j u hj
  · intro v' w' ho' hg _
    refine h v' w' ?_ hg
    unfold FRow
    rw [List.length_append, List.flatMap_append]
    simpa using ho'
theorem FRow.finds {w : World} {N : Nat} {v : Value} {xs : List FV} (h : FRow w N v xs) (hok : ∀ x ∈ xs, FOk w x) : Finds w v xs := by
  have hlen : ∀ {ys : List FV}, (∀ y ∈ ys, DigOk y.f.inv) → ∀ j (hj : j < ys.length) i, i < 39 → (ys.flatMap fl)[j * 39 + i]? = (fl ys[j])[i]? := by
    intro ys
    induction ys with
    | nil => intro _ j hj; simp at hj
    | cons y r ih =>
      intro hy j hj i hi
      have h34 := fl_len (hy y (by simp))
      cases j with
      | zero =>
        rw [List.flatMap_cons, List.getElem?_append_left (by omega)]
        simp
      | succ j =>
        rw [List.flatMap_cons, List.getElem?_append_right (by omega), h34, show (j + 1) * 39 + i - 39 = j * 39 + i by omega]
        rw [ih (fun z hz => hy z (by simp [hz])) j (by simpa using hj) i hi]
        simp
  rcases h.2 with ⟨rfl, h0⟩ | ⟨g, cap, cur, rfl, _, hg, hrest⟩
  · exact ⟨none, 0, by rw [h0], fun j hj => by omega⟩
  · refine ⟨_, cap, rfl, fun j hj => ⟨hok _ (List.getElem_mem hj), g, 0, rfl, (Array.getElem?_eq_some_iff.1 hg).1, fun i u hu => ?_⟩⟩
    have h34 := fl_len (hok _ (List.getElem_mem hj)).inv
    have hi : i < 39 := by have := (List.getElem?_eq_some_iff.1 hu).1; omega
    have := World.ownsRow.cellAt h (j * 39 + i) (by omega)
    rw [Nat.zero_add, this, hlen (fun y hy => (hok y hy).inv) j hj i hi]
    exact hu
theorem fcells_set {x : FV} (hx : DigOk x.f.inv) (v1 v2 : Value) : ((fcells x).setIfInBounds 35 v1).setIfInBounds 37 v2 = fcells ⟨x.f, v1, v2⟩ := by
  have h32 := dL_len hx
  unfold fcells fl
  rw [List.setIfInBounds_toArray, List.setIfInBounds_toArray, List.set_append_right _ _ (by omega), h32, List.set_append_right _ _ (by omega), h32]
  rfl

def OpenPost (xs : List FV) (sev : Int) (w : World) (e : Ending) (w' : World) : Prop :=
  ∃ v ys, e = .returned v ∧ Finds w' v ys ∧ ys.map FV.f = V.openL (xs.map FV.f) sev ∧ ys.length ≤ xs.length ∧ Below w.heap.size w w'

set_option maxRecDepth 100000 in
set_option maxHeartbeats 6400000 in
theorem openAll_any (v : Value) (xs : List FV) (sev : Int) (w : World) (hv : Finds w v xs) (hl : xs.length ≤ 10000) :
    Calls Try.prog 9 #[v, .int .i64 sev] w (OpenPost xs sev w) := by
  obtain ⟨va, vc, rfl, hat⟩ := hv
  have HA := Lib.hid hat
  clear hat
  go_enter Try.func9, Try.ntmps9
  go_wp2
  go_loopw [5, 10] (fun ov jv wx => ∃ (k : Nat) (ys : List FV), k ≤ xs.length ∧ jv = .int .i64 k ∧ ys.map FV.f = V.openL ((xs.map FV.f).take k) sev ∧ ys.length ≤ k ∧ FRow wx w.heap.size ov ys ∧ (∀ y ∈ ys, FOk wx y) ∧ Below w.heap.size w wx) (fun _ jv _ => xs.length - (intOf jv).toNat)
  case atStart => exact ⟨0, [], Nat.zero_le _, rfl, rfl, Nat.le_refl _, FRow.nil _ _, fun y hy => by simp at hy, Below.refl _ _⟩
  case round =>
    obtain ⟨k, ys, hk, rfl, hys, hyl, hfr, hoks, hbx⟩ := hrel
    have HBX := Lib.hid hbx
    have HFR := Lib.hid hfr
    have HOK := Lib.hid hoks
    have HYS := Lib.hid hys
    obtain ⟨oa, oc, hov⟩ := hfr.slice
    subst hov
    clear hbx hfr hoks hys
    by_cases hlt : k < xs.length
    · obtain ⟨hok, g, off, rfl, hgl, hr⟩ := HA.out k hlt
      have HST : Hid (V.openL ((xs.map FV.f).take (k + 1)) sev = V.openL ((xs.map FV.f).take k) sev ++ if (V.isOpen xs[k].f.st && decide (sev ≤ xs[k].f.sev)) = true then [xs[k].f] else []) := Lib.hid (by
        have hk2 : k < (xs.map FV.f).length := by simpa using hlt
        rw [List.take_succ_eq_append_getElem hk2]
        unfold V.openL
        rw [List.filter_append]
        congr 1
        simp only [List.getElem_map, List.filter_cons, List.filter_nil])
      have HR := Lib.hid (rangeAt_below hr HBX.out)
      have HX := Lib.hid (hok.below HBX.out)
      have hi1 : (0 : Int) ≤ (k : Int) := by omega
      have hi2 : (k : Int) < (xs.length : Int) := by omega
      clear hok hr
      generalize xs[k] = x at *
      have hb1 : Below wr.heap.size wr (wr.alloc (.cells (fcells x) 64)) := (Below.refl _ wr).alloc (Nat.le_refl _) _
      have HB1 := Lib.hid (HBX.out.trans (hb1.mono HBX.out.size))
      have HG1 : Hid ((wr.alloc (.cells (fcells x) 64)).heap[wr.heap.size]? = some (.cells (fcells x) 64 (0, 0))) := Lib.hid (heap_alloc_new wr _)
      have hz1 : wr.heap.size < (wr.alloc (.cells (fcells x) 64)).heap.size := by simp
      have HX1 := Lib.hid (HX.out.below hb1)
      have HO1 : Hid (∀ y ∈ ys, FOk (wr.alloc (.cells (fcells x) 64)) y) := Lib.hid (fun y hy => (HOK.out y hy).below hb1)
      have HF1 := Lib.hid (HFR.out.kept (below_grown hb1 none) (fun b e => by cases e))
      have HBL : Hid (∀ b, (Value.slice oa ys.length oc).ownBlock = some b → b < wr.heap.size) := Lib.hid (fun b hb => by
        obtain ⟨_, cur, hc⟩ := HFR.out.block hb
        exact (Array.getElem?_eq_some_iff.1 hc).1)
      have hwx : w.heap.size ≤ wr.heap.size := HBX.out.size
      clear hb1
      go_wp2_with (first | (refine wl_loadF rfl _ rfl g (off + k * 39) rfl x HX.out.inv HR.out ?_) | (refine wl_storeF rfl _ _ rfl _ _ rfl x HX.out.inv (fl_one HX.out) rfl rfl ?_; generalize wr.alloc (.cells (fcells x) 64) = w1 at *; generalize wr.heap.size = X at *) | (refine wl_loadF rfl _ rfl X 0 rfl x HX.out.inv (find_range HG1.out) ?_) | fail)
      refine (open_any x w1 HX.out.inv).mono ?_
      rintro e w2 ⟨rfl, hb2⟩
      have HB2 := Lib.hid (HB1.out.trans (hb2.mono HB1.out.size))
      have HG2 := Lib.hid ((hb2.block X hz1).trans HG1.out)
      have hc : w2.cell? ⟨X, 34, none⟩ = some (.int .i64 x.f.sev) := by
        rw [cell_of_row w2 X 34 _ _ _ HG2.out]
        exact fcells_at HX.out.inv 2
      have HX2 := Lib.hid (HX1.out.below hb2)
      have HO2 : Hid (∀ y ∈ ys, FOk w2 y) := Lib.hid (fun y hy => (HO1.out y hy).below hb2)
      have HF2 := Lib.hid (HF1.out.kept (below_grown hb2 none) (fun b e => by cases e))
      have hz2 : X < w2.heap.size := Nat.lt_of_lt_of_le hz1 hb2.size
      clear hb2 hz1 HG1 HX1 HO1 HF1
      rcases hop : V.isOpen x.f.st with _ | _
      · have HN : Hid (V.openL ((xs.map FV.f).take (k + 1)) sev = V.openL ((xs.map FV.f).take k) sev) := Lib.hid (by rw [HST.out, hop]; simp)
        clear hop HST
        go_wp2
        go_roundw
        case rel => exact ⟨k + 1, ys, by omega, by go_num, by rw [HN.out]; exact HYS.out, by omega, HF2.out, HO2.out, HB2.out⟩
        case measure => simp [intOf]; omega
      · by_cases hs : sev ≤ x.f.sev
        · have HN : Hid (V.openL ((xs.map FV.f).take (k + 1)) sev = V.openL ((xs.map FV.f).take k) sev ++ [x.f]) := Lib.hid (by rw [HST.out, hop, decide_eq_true hs]; simp)
          clear hop HST
          go_wp2_with fail
          -- REGION
          refine wp_region_held (S := fun _ => True) (by kernel_rfl) ?_
          change wpAnyH _ _ _ _ _ _ _ _ (World.drew _)
          have hbd := (Below.refl w2.heap.size w2).drew
          have HX3 := Lib.hid (HX2.out.below hbd)
          have HO3 : Hid (∀ y ∈ ys, FOk w2.drew y) := Lib.hid (fun y hy => (HO2.out y hy).below hbd)
          have HF3 := Lib.hid (HF2.out.kept (below_grown hbd none) (fun b e => by cases e))
          have HG3 := Lib.hid ((hbd.block X hz2).trans HG2.out)
          have HB3 := Lib.hid (HB2.out.trans (hbd.mono HB2.out.size))
          have hz3 : X < w2.drew.heap.size := Nat.lt_of_lt_of_le hz2 hbd.size
          clear hbd HX2 HO2 HF2 HG2 HB2 hz2 hc
          generalize w2.drew = w3 at *
          have h35 : w3.cell? ⟨X, 35, none⟩ = some x.dv := by rw [cell_of_row w3 X 35 _ _ _ HG3.out]; exact fcells_at HX.out.inv 3
          have h37 : w3.cell? ⟨X, 37, none⟩ = some x.ev := by rw [cell_of_row w3 X 37 _ _ _ HG3.out]; exact fcells_at HX.out.inv 5
          refine wpAnyH_take (i := 0) (v := .pointer (some ⟨X, 32, none⟩)) rfl (by kernel_rfl) (by kernel_rfl) (by kernel_rfl) (fun _ _ _ h => h) (Or.inl ⟨by rfl, fun W _ => by go_simp⟩) trivial ?_
          refine wpAnyH_take (i := 4) (v := .pointer (some ⟨X, 36, none⟩)) rfl (by kernel_rfl) (by kernel_rfl) (by kernel_rfl) (fun _ _ _ h => h) (Or.inl ⟨by rfl, fun W _ => by go_simp⟩) trivial ?_
          simp only [List.getElem_toArray, List.getElem_cons_succ, List.getElem_cons_zero, Act.put, List.setIfInBounds_toArray, List.set_cons_succ, List.set_cons_zero]
          refine wpAnyH_take (i := 1) (v := .pointer (some ⟨X, 35, none⟩)) rfl (by kernel_rfl) (by kernel_rfl) (by kernel_rfl) (fun _ _ _ h => h) (Or.inl ⟨by rfl, fun W _ => by go_simp⟩) trivial ?_
          refine wpAnyH_take (i := 5) (v := .pointer (some ⟨X, 37, none⟩)) rfl (by kernel_rfl) (by kernel_rfl) (by kernel_rfl) (fun _ _ _ h => h) (Or.inl ⟨by rfl, fun W _ => by go_simp⟩) trivial ?_
          simp only [List.getElem_toArray, List.getElem_cons_succ, List.getElem_cons_zero, Act.put, List.setIfInBounds_toArray, List.set_cons_succ, List.set_cons_zero]
          refine wpAnyH_all (rs := [2, 6]) (by kernel_rfl) (by simp) ?_
          intro i0 hi0
          have hi3 : i0 = 2 ∨ i0 = 6 := by simpa using hi0
          clear hi0
          rcases hi3 with rfl | rfl
          · skip
            refine wpOp_step (by rfl) (fun K hK => step_get rfl (x.dv) (ex_load rfl rfl (by go_simp)) (hK _ _ ⟨trivial, ?_⟩))
            clear hK K
            simp only [List.getElem_toArray, List.getElem_cons_succ, List.getElem_cons_zero, Act.put, List.setIfInBounds_toArray, List.set_cons_succ, List.set_cons_zero]
            refine wpAnyH_all (rs := [3, 6]) (by kernel_rfl) (by simp) ?_
            intro i0 hi0
            have hi3 : i0 = 3 ∨ i0 = 6 := by simpa using hi0
            clear hi0
            rcases hi3 with rfl | rfl
            · skip
              refine wpOp_step (by rfl) (fun K hK => ?_)
              refine step_call rfl _ #[x.dv] (by go_simp) (cloneD_any x.dv x.f.docs w3 HX3.out.docs (by have := HX3.out.few; omega)) ?_
              rintro e w4 ⟨v1, rfl, hd1, hb4⟩
              refine ⟨v1, rfl, hK _ _ ⟨trivial, ?_⟩⟩
              clear hK K
              have HD1 := Lib.hid hd1
              have HX4 := Lib.hid (HX3.out.below hb4)
              have HO4 : Hid (∀ y ∈ ys, FOk w4 y) := Lib.hid (fun y hy => (HO3.out y hy).below hb4)
              have HF4 := Lib.hid (HF3.out.kept (below_grown hb4 none) (fun b e => by cases e))
              have HG4 := Lib.hid ((hb4.block X hz3).trans HG3.out)
              have HB4 := Lib.hid (HB3.out.trans (hb4.mono HB3.out.size))
              have hz4 : X < w4.heap.size := Nat.lt_of_lt_of_le hz3 hb4.size
              clear hd1 hb4 h35 h37
              have h37 : w4.cell? ⟨X, 37, none⟩ = some x.ev := by rw [cell_of_row w4 X 37 _ _ _ HG4.out]; exact fcells_at HX.out.inv 5
              simp only [List.getElem_toArray, List.getElem_cons_succ, List.getElem_cons_zero, Act.put, List.setIfInBounds_toArray, List.set_cons_succ, List.set_cons_zero]
              refine wpAnyH_all (rs := [6]) (by kernel_rfl) (by simp) ?_
              intro i0 hi0
              obtain rfl : i0 = 6 := by simpa using hi0
              clear hi0
              refine wpOp_step (by rfl) (fun K hK => step_get rfl (x.ev) (ex_load rfl rfl (by go_simp)) (hK _ _ ⟨trivial, ?_⟩))
              clear hK K
              simp only [List.getElem_toArray, List.getElem_cons_succ, List.getElem_cons_zero, Act.put, List.setIfInBounds_toArray, List.set_cons_succ, List.set_cons_zero]
              refine wpAnyH_take (i := 8) (v := .pointer (some ⟨X, 32, none⟩)) rfl (by kernel_rfl) (by kernel_rfl) (by kernel_rfl) (fun _ _ _ h => h) (Or.inl ⟨by rfl, fun W _ => by go_simp⟩) trivial ?_
              simp only [List.getElem_toArray, List.getElem_cons_succ, List.getElem_cons_zero, Act.put, List.setIfInBounds_toArray, List.set_cons_succ, List.set_cons_zero]
              refine wpAnyH_take (i := 9) (v := .pointer (some ⟨X, 35, none⟩)) rfl (by kernel_rfl) (by kernel_rfl) (by kernel_rfl) (fun _ _ _ h => h) (Or.inl ⟨by rfl, fun W _ => by go_simp⟩) trivial ?_
              simp only [List.getElem_toArray, List.getElem_cons_succ, List.getElem_cons_zero, Act.put, List.setIfInBounds_toArray, List.set_cons_succ, List.set_cons_zero]
              refine wpAnyH_all (rs := [7]) (by kernel_rfl) (by simp) ?_
              intro i0 hi0
              obtain rfl : i0 = 7 := by simpa using hi0
              clear hi0
              refine wpOp_step (by rfl) (fun K hK => ?_)
              refine step_call rfl _ #[x.ev] (by go_simp) (cloneD_any x.ev x.f.ddocs w4 HX4.out.ddocs (by have := HX4.out.dfew; omega)) ?_
              rintro e w5 ⟨v2, rfl, hd2, hb5⟩
              refine ⟨v2, rfl, hK _ _ ⟨trivial, ?_⟩⟩
              clear hK K
              have HD2 := Lib.hid hd2
              replace HD1 := Lib.hid (HD1.out.below hb5)
              have HO5 : Hid (∀ y ∈ ys, FOk w5 y) := Lib.hid (fun y hy => (HO4.out y hy).below hb5)
              have HF5 := Lib.hid (HF4.out.kept (below_grown hb5 none) (fun b e => by cases e))
              have HG5 := Lib.hid ((hb5.block X hz4).trans HG4.out)
              have HB5 := Lib.hid (HB4.out.trans (hb5.mono HB4.out.size))
              clear hd2 hb5 h37
              simp only [List.getElem_toArray, List.getElem_cons_succ, List.getElem_cons_zero, Act.put, List.setIfInBounds_toArray, List.set_cons_succ, List.set_cons_zero]
              refine wpAnyH_all (rs := [10]) (by kernel_rfl) (by simp) ?_
              intro i0 hi0
              obtain rfl : i0 = 10 := by simpa using hi0
              clear hi0
              have h35 : w5.cell? ⟨X, 35, none⟩ = some x.dv := by rw [cell_of_row w5 X 35 _ _ _ HG5.out]; exact fcells_at HX.out.inv 3
              refine wpOp_step (by rfl) (fun K hK => step_set rfl 55 _ _ rfl X 35 rfl v1 rfl _ h35 (frozen_row HG5.out) digs_size HD1.out.one (hK _ _ ⟨trivial, ?_⟩))
              clear hK K h35
              have HG6 := Lib.hid (setCell_heap 35 v1 HG5.out)
              have hsg6 := set_grown w5 X 35 v1
              have ht6 : ∀ b, some X = some b → ∃ cs t fr, w5.heap[b]? = some (.cells cs t fr) ∧ t ≠ 24 := fun b e => by cases e; exact ⟨_, _, _, HG5.out, by decide⟩
              replace HD1 := Lib.hid (HD1.out.grow hsg6 ht6)
              replace HD2 := Lib.hid (HD2.out.grow hsg6 ht6)
              have HO6 : Hid (∀ y ∈ ys, FOk (w5.setCell ⟨X, 35, none⟩ v1) y) := Lib.hid (fun y hy => (HO5.out y hy).grow hsg6 ht6)
              have HF6 := Lib.hid (HF5.out.kept hsg6 (fun b e h => by cases e; have := HBL.out _ h; omega))
              have HB6 := Lib.hid (HB5.out.trans (grown_below hsg6 hwx HB5.out.size))
              clear hsg6 ht6
              generalize w5.setCell ⟨X, 35, none⟩ v1 = w6 at *
              simp only [List.getElem_toArray, List.getElem_cons_succ, List.getElem_cons_zero, Act.put, List.setIfInBounds_toArray, List.set_cons_succ, List.set_cons_zero]
              refine wpAnyH_take (i := 11) (v := .pointer (some ⟨X, 36, none⟩)) rfl (by kernel_rfl) (by kernel_rfl) (by kernel_rfl) (fun _ _ _ h => h) (Or.inl ⟨by rfl, fun W _ => by go_simp⟩) trivial ?_
              simp only [List.getElem_toArray, List.getElem_cons_succ, List.getElem_cons_zero, Act.put, List.setIfInBounds_toArray, List.set_cons_succ, List.set_cons_zero]
              refine wpAnyH_take (i := 12) (v := .pointer (some ⟨X, 37, none⟩)) rfl (by kernel_rfl) (by kernel_rfl) (by kernel_rfl) (fun _ _ _ h => h) (Or.inl ⟨by rfl, fun W _ => by go_simp⟩) trivial ?_
              simp only [List.getElem_toArray, List.getElem_cons_succ, List.getElem_cons_zero, Act.put, List.setIfInBounds_toArray, List.set_cons_succ, List.set_cons_zero]
              refine wpAnyH_all (rs := [13]) (by kernel_rfl) (by simp) ?_
              intro i0 hi0
              obtain rfl : i0 = 13 := by simpa using hi0
              clear hi0
              have h37 : w6.cell? ⟨X, 37, none⟩ = some x.ev := by rw [cell_of_row w6 X 37 _ _ _ HG6.out, Array.getElem?_setIfInBounds_ne (by omega)]; exact fcells_at HX.out.inv 5
              refine wpOp_step (by rfl) (fun K hK => step_set rfl 55 _ _ rfl X 37 rfl v2 rfl _ h37 (frozen_row HG6.out) digs_size HD2.out.one (hK _ _ ⟨trivial, ?_⟩))
              clear hK K h37
              have HG7 := Lib.hid (setCell_heap 37 v2 HG6.out)
              rw [fcells_set HX.out.inv] at HG7
              have hsg7 := set_grown w6 X 37 v2
              have ht7 : ∀ b, some X = some b → ∃ cs t fr, w6.heap[b]? = some (.cells cs t fr) ∧ t ≠ 24 := fun b e => by cases e; exact ⟨_, _, _, HG6.out, by decide⟩
              have HY7 : Hid (FOk (w6.setCell ⟨X, 37, none⟩ v2) ⟨x.f, v1, v2⟩) := Lib.hid ⟨HX.out.inv, HD1.out.grow hsg7 ht7, HD2.out.grow hsg7 ht7, HX.out.few, HX.out.dfew, HX.out.id⟩
              have HO7 : Hid (∀ y ∈ ys, FOk (w6.setCell ⟨X, 37, none⟩ v2) y) := Lib.hid (fun y hy => (HO6.out y hy).grow hsg7 ht7)
              have HF7 := Lib.hid (HF6.out.kept hsg7 (fun b e h => by cases e; have := HBL.out _ h; omega))
              have HB7 := Lib.hid (HB6.out.trans (grown_below hsg7 hwx HB6.out.size))
              clear hsg7 ht7 HD1 HD2 HO6 HF6 HB6 HG6
              refine wpAnyH_done (by kernel_rfl) ?_ _
              generalize w6.setCell ⟨X, 37, none⟩ v2 = w7 at *
              simp only [List.getElem_toArray, List.getElem_cons_succ, List.getElem_cons_zero, Act.put, List.setIfInBounds_toArray, List.set_cons_succ, List.set_cons_zero]
              have hb8 : Below w7.heap.size w7 (w7.alloc (.cells (fcells ⟨x.f, v1, v2⟩) 64)) := (Below.refl _ w7).alloc (Nat.le_refl _) _
              have HY8 := Lib.hid (HY7.out.below hb8)
              have HO8 : Hid (∀ y ∈ ys, FOk (w7.alloc (.cells (fcells ⟨x.f, v1, v2⟩) 64)) y) := Lib.hid (fun y hy => (HO7.out y hy).below hb8)
              have HF8 := Lib.hid (HF7.out.kept (below_grown hb8 none) (fun b e => by cases e))
              have HB8 := Lib.hid (HB7.out.trans (hb8.mono HB7.out.size))
              have HR8 : Hid ((w7.alloc (.cells (fcells ⟨x.f, v1, v2⟩) 64)).rangeAt w7.heap.size 0 (fl ⟨x.f, v1, v2⟩)) := Lib.hid (find_range (heap_alloc_new w7 _))
              clear hb8
              go_wp2_with (first | (refine wl_loadF rfl _ rfl X 0 rfl ⟨x.f, v1, v2⟩ HX.out.inv (find_range HG7.out) ?_) | (refine wl_build1F rfl _ rfl ⟨x.f, v1, v2⟩ HX.out.inv rfl ?_) | (refine wl_append1F rfl _ _ rfl w.heap.size (.slice oa ys.length oc) ys rfl HF8.out w7.heap.size ⟨x.f, v1, v2⟩ HY8.out rfl HR8.out (by omega) HB8.out.size ?_; intro v9 w9 hf9 hg9) | fail)
              have ht9 : ∀ b, (Value.slice oa ys.length oc).ownBlock = some b → ∃ cs t fr, (w7.alloc (.cells (fcells ⟨x.f, v1, v2⟩) 64)).heap[b]? = some (.cells cs t fr) ∧ t ≠ 24 := fun b e => by
                obtain ⟨_, cur, hc⟩ := HF8.out.block e
                exact ⟨_, _, _, hc, by decide⟩
              have HO9 : Hid (∀ y ∈ ys ++ [⟨x.f, v1, v2⟩], FOk w9 y) := Lib.hid (fun y hy => by
                rcases List.mem_append.1 hy with hy | hy
                · exact (HO8.out y hy).grow hg9 ht9
                · rw [List.mem_singleton.1 hy]; exact HY8.out.grow hg9 ht9)
              have HB9 : Hid (Below w.heap.size w w9) := Lib.hid (HB8.out.trans ⟨hg9.os, hg9.tape, hg9.output, hg9.size, fun q hq => hg9.block q (Nat.lt_of_lt_of_le hq HB8.out.size) (fun e => by have := (HF8.out.block e.symm).1; omega)⟩)
              have HF9 := Lib.hid hf9
              clear hf9 hg9 ht9
              go_wp2
              go_roundw
              case rel => exact ⟨k + 1, ys ++ [⟨x.f, v1, v2⟩], by omega, by go_num, by rw [HN.out, List.map_append, HYS.out]; rfl, by simp; omega, HF9.out, HO9.out, HB9.out⟩
              case measure => simp [intOf]; omega
            · skip
              refine wpOp_step (by rfl) (fun K hK => step_get rfl (x.ev) (ex_load rfl rfl (by go_simp)) (hK _ _ ⟨trivial, ?_⟩))
              clear hK K
              simp only [List.getElem_toArray, List.getElem_cons_succ, List.getElem_cons_zero, Act.put, List.setIfInBounds_toArray, List.set_cons_succ, List.set_cons_zero]
              refine wpAnyH_all (rs := [3]) (by kernel_rfl) (by simp) ?_
              intro i0 hi0
              obtain rfl : i0 = 3 := by simpa using hi0
              clear hi0
              refine wpOp_step (by rfl) (fun K hK => ?_)
              refine step_call rfl _ #[x.dv] (by go_simp) (cloneD_any x.dv x.f.docs w3 HX3.out.docs (by have := HX3.out.few; omega)) ?_
              rintro e w4 ⟨v1, rfl, hd1, hb4⟩
              refine ⟨v1, rfl, hK _ _ ⟨trivial, ?_⟩⟩
              clear hK K
              have HD1 := Lib.hid hd1
              have HX4 := Lib.hid (HX3.out.below hb4)
              have HO4 : Hid (∀ y ∈ ys, FOk w4 y) := Lib.hid (fun y hy => (HO3.out y hy).below hb4)
              have HF4 := Lib.hid (HF3.out.kept (below_grown hb4 none) (fun b e => by cases e))
              have HG4 := Lib.hid ((hb4.block X hz3).trans HG3.out)
              have HB4 := Lib.hid (HB3.out.trans (hb4.mono HB3.out.size))
              have hz4 : X < w4.heap.size := Nat.lt_of_lt_of_le hz3 hb4.size
              clear hd1 hb4 h35 h37
              have h37 : w4.cell? ⟨X, 37, none⟩ = some x.ev := by rw [cell_of_row w4 X 37 _ _ _ HG4.out]; exact fcells_at HX.out.inv 5
              simp only [List.getElem_toArray, List.getElem_cons_succ, List.getElem_cons_zero, Act.put, List.setIfInBounds_toArray, List.set_cons_succ, List.set_cons_zero]
              refine wpAnyH_take (i := 8) (v := .pointer (some ⟨X, 32, none⟩)) rfl (by kernel_rfl) (by kernel_rfl) (by kernel_rfl) (fun _ _ _ h => h) (Or.inl ⟨by rfl, fun W _ => by go_simp⟩) trivial ?_
              simp only [List.getElem_toArray, List.getElem_cons_succ, List.getElem_cons_zero, Act.put, List.setIfInBounds_toArray, List.set_cons_succ, List.set_cons_zero]
              refine wpAnyH_take (i := 9) (v := .pointer (some ⟨X, 35, none⟩)) rfl (by kernel_rfl) (by kernel_rfl) (by kernel_rfl) (fun _ _ _ h => h) (Or.inl ⟨by rfl, fun W _ => by go_simp⟩) trivial ?_
              simp only [List.getElem_toArray, List.getElem_cons_succ, List.getElem_cons_zero, Act.put, List.setIfInBounds_toArray, List.set_cons_succ, List.set_cons_zero]
              refine wpAnyH_all (rs := [7]) (by kernel_rfl) (by simp) ?_
              intro i0 hi0
              obtain rfl : i0 = 7 := by simpa using hi0
              clear hi0
              refine wpOp_step (by rfl) (fun K hK => ?_)
              refine step_call rfl _ #[x.ev] (by go_simp) (cloneD_any x.ev x.f.ddocs w4 HX4.out.ddocs (by have := HX4.out.dfew; omega)) ?_
              rintro e w5 ⟨v2, rfl, hd2, hb5⟩
              refine ⟨v2, rfl, hK _ _ ⟨trivial, ?_⟩⟩
              clear hK K
              have HD2 := Lib.hid hd2
              replace HD1 := Lib.hid (HD1.out.below hb5)
              have HO5 : Hid (∀ y ∈ ys, FOk w5 y) := Lib.hid (fun y hy => (HO4.out y hy).below hb5)
              have HF5 := Lib.hid (HF4.out.kept (below_grown hb5 none) (fun b e => by cases e))
              have HG5 := Lib.hid ((hb5.block X hz4).trans HG4.out)
              have HB5 := Lib.hid (HB4.out.trans (hb5.mono HB4.out.size))
              clear hd2 hb5 h37
              simp only [List.getElem_toArray, List.getElem_cons_succ, List.getElem_cons_zero, Act.put, List.setIfInBounds_toArray, List.set_cons_succ, List.set_cons_zero]
              refine wpAnyH_all (rs := [10]) (by kernel_rfl) (by simp) ?_
              intro i0 hi0
              obtain rfl : i0 = 10 := by simpa using hi0
              clear hi0
              have h35 : w5.cell? ⟨X, 35, none⟩ = some x.dv := by rw [cell_of_row w5 X 35 _ _ _ HG5.out]; exact fcells_at HX.out.inv 3
              refine wpOp_step (by rfl) (fun K hK => step_set rfl 55 _ _ rfl X 35 rfl v1 rfl _ h35 (frozen_row HG5.out) digs_size HD1.out.one (hK _ _ ⟨trivial, ?_⟩))
              clear hK K h35
              have HG6 := Lib.hid (setCell_heap 35 v1 HG5.out)
              have hsg6 := set_grown w5 X 35 v1
              have ht6 : ∀ b, some X = some b → ∃ cs t fr, w5.heap[b]? = some (.cells cs t fr) ∧ t ≠ 24 := fun b e => by cases e; exact ⟨_, _, _, HG5.out, by decide⟩
              replace HD1 := Lib.hid (HD1.out.grow hsg6 ht6)
              replace HD2 := Lib.hid (HD2.out.grow hsg6 ht6)
              have HO6 : Hid (∀ y ∈ ys, FOk (w5.setCell ⟨X, 35, none⟩ v1) y) := Lib.hid (fun y hy => (HO5.out y hy).grow hsg6 ht6)
              have HF6 := Lib.hid (HF5.out.kept hsg6 (fun b e h => by cases e; have := HBL.out _ h; omega))
              have HB6 := Lib.hid (HB5.out.trans (grown_below hsg6 hwx HB5.out.size))
              clear hsg6 ht6
              generalize w5.setCell ⟨X, 35, none⟩ v1 = w6 at *
              simp only [List.getElem_toArray, List.getElem_cons_succ, List.getElem_cons_zero, Act.put, List.setIfInBounds_toArray, List.set_cons_succ, List.set_cons_zero]
              refine wpAnyH_take (i := 11) (v := .pointer (some ⟨X, 36, none⟩)) rfl (by kernel_rfl) (by kernel_rfl) (by kernel_rfl) (fun _ _ _ h => h) (Or.inl ⟨by rfl, fun W _ => by go_simp⟩) trivial ?_
              simp only [List.getElem_toArray, List.getElem_cons_succ, List.getElem_cons_zero, Act.put, List.setIfInBounds_toArray, List.set_cons_succ, List.set_cons_zero]
              refine wpAnyH_take (i := 12) (v := .pointer (some ⟨X, 37, none⟩)) rfl (by kernel_rfl) (by kernel_rfl) (by kernel_rfl) (fun _ _ _ h => h) (Or.inl ⟨by rfl, fun W _ => by go_simp⟩) trivial ?_
              simp only [List.getElem_toArray, List.getElem_cons_succ, List.getElem_cons_zero, Act.put, List.setIfInBounds_toArray, List.set_cons_succ, List.set_cons_zero]
              refine wpAnyH_all (rs := [13]) (by kernel_rfl) (by simp) ?_
              intro i0 hi0
              obtain rfl : i0 = 13 := by simpa using hi0
              clear hi0
              have h37 : w6.cell? ⟨X, 37, none⟩ = some x.ev := by rw [cell_of_row w6 X 37 _ _ _ HG6.out, Array.getElem?_setIfInBounds_ne (by omega)]; exact fcells_at HX.out.inv 5
              refine wpOp_step (by rfl) (fun K hK => step_set rfl 55 _ _ rfl X 37 rfl v2 rfl _ h37 (frozen_row HG6.out) digs_size HD2.out.one (hK _ _ ⟨trivial, ?_⟩))
              clear hK K h37
              have HG7 := Lib.hid (setCell_heap 37 v2 HG6.out)
              rw [fcells_set HX.out.inv] at HG7
              have hsg7 := set_grown w6 X 37 v2
              have ht7 : ∀ b, some X = some b → ∃ cs t fr, w6.heap[b]? = some (.cells cs t fr) ∧ t ≠ 24 := fun b e => by cases e; exact ⟨_, _, _, HG6.out, by decide⟩
              have HY7 : Hid (FOk (w6.setCell ⟨X, 37, none⟩ v2) ⟨x.f, v1, v2⟩) := Lib.hid ⟨HX.out.inv, HD1.out.grow hsg7 ht7, HD2.out.grow hsg7 ht7, HX.out.few, HX.out.dfew, HX.out.id⟩
              have HO7 : Hid (∀ y ∈ ys, FOk (w6.setCell ⟨X, 37, none⟩ v2) y) := Lib.hid (fun y hy => (HO6.out y hy).grow hsg7 ht7)
              have HF7 := Lib.hid (HF6.out.kept hsg7 (fun b e h => by cases e; have := HBL.out _ h; omega))
              have HB7 := Lib.hid (HB6.out.trans (grown_below hsg7 hwx HB6.out.size))
              clear hsg7 ht7 HD1 HD2 HO6 HF6 HB6 HG6
              refine wpAnyH_done (by kernel_rfl) ?_ _
              generalize w6.setCell ⟨X, 37, none⟩ v2 = w7 at *
              simp only [List.getElem_toArray, List.getElem_cons_succ, List.getElem_cons_zero, Act.put, List.setIfInBounds_toArray, List.set_cons_succ, List.set_cons_zero]
              have hb8 : Below w7.heap.size w7 (w7.alloc (.cells (fcells ⟨x.f, v1, v2⟩) 64)) := (Below.refl _ w7).alloc (Nat.le_refl _) _
              have HY8 := Lib.hid (HY7.out.below hb8)
              have HO8 : Hid (∀ y ∈ ys, FOk (w7.alloc (.cells (fcells ⟨x.f, v1, v2⟩) 64)) y) := Lib.hid (fun y hy => (HO7.out y hy).below hb8)
              have HF8 := Lib.hid (HF7.out.kept (below_grown hb8 none) (fun b e => by cases e))
              have HB8 := Lib.hid (HB7.out.trans (hb8.mono HB7.out.size))
              have HR8 : Hid ((w7.alloc (.cells (fcells ⟨x.f, v1, v2⟩) 64)).rangeAt w7.heap.size 0 (fl ⟨x.f, v1, v2⟩)) := Lib.hid (find_range (heap_alloc_new w7 _))
              clear hb8
              go_wp2_with (first | (refine wl_loadF rfl _ rfl X 0 rfl ⟨x.f, v1, v2⟩ HX.out.inv (find_range HG7.out) ?_) | (refine wl_build1F rfl _ rfl ⟨x.f, v1, v2⟩ HX.out.inv rfl ?_) | (refine wl_append1F rfl _ _ rfl w.heap.size (.slice oa ys.length oc) ys rfl HF8.out w7.heap.size ⟨x.f, v1, v2⟩ HY8.out rfl HR8.out (by omega) HB8.out.size ?_; intro v9 w9 hf9 hg9) | fail)
              have ht9 : ∀ b, (Value.slice oa ys.length oc).ownBlock = some b → ∃ cs t fr, (w7.alloc (.cells (fcells ⟨x.f, v1, v2⟩) 64)).heap[b]? = some (.cells cs t fr) ∧ t ≠ 24 := fun b e => by
                obtain ⟨_, cur, hc⟩ := HF8.out.block e
                exact ⟨_, _, _, hc, by decide⟩
              have HO9 : Hid (∀ y ∈ ys ++ [⟨x.f, v1, v2⟩], FOk w9 y) := Lib.hid (fun y hy => by
                rcases List.mem_append.1 hy with hy | hy
                · exact (HO8.out y hy).grow hg9 ht9
                · rw [List.mem_singleton.1 hy]; exact HY8.out.grow hg9 ht9)
              have HB9 : Hid (Below w.heap.size w w9) := Lib.hid (HB8.out.trans ⟨hg9.os, hg9.tape, hg9.output, hg9.size, fun q hq => hg9.block q (Nat.lt_of_lt_of_le hq HB8.out.size) (fun e => by have := (HF8.out.block e.symm).1; omega)⟩)
              have HF9 := Lib.hid hf9
              clear hf9 hg9 ht9
              go_wp2
              go_roundw
              case rel => exact ⟨k + 1, ys ++ [⟨x.f, v1, v2⟩], by omega, by go_num, by rw [HN.out, List.map_append, HYS.out]; rfl, by simp; omega, HF9.out, HO9.out, HB9.out⟩
              case measure => simp [intOf]; omega
          · skip
            refine wpOp_step (by rfl) (fun K hK => step_get rfl (x.ev) (ex_load rfl rfl (by go_simp)) (hK _ _ ⟨trivial, ?_⟩))
            clear hK K
            simp only [List.getElem_toArray, List.getElem_cons_succ, List.getElem_cons_zero, Act.put, List.setIfInBounds_toArray, List.set_cons_succ, List.set_cons_zero]
            refine wpAnyH_all (rs := [2]) (by kernel_rfl) (by simp) ?_
            intro i0 hi0
            obtain rfl : i0 = 2 := by simpa using hi0
            clear hi0
            refine wpOp_step (by rfl) (fun K hK => step_get rfl (x.dv) (ex_load rfl rfl (by go_simp)) (hK _ _ ⟨trivial, ?_⟩))
            clear hK K
            simp only [List.getElem_toArray, List.getElem_cons_succ, List.getElem_cons_zero, Act.put, List.setIfInBounds_toArray, List.set_cons_succ, List.set_cons_zero]
            refine wpAnyH_all (rs := [3]) (by kernel_rfl) (by simp) ?_
            intro i0 hi0
            obtain rfl : i0 = 3 := by simpa using hi0
            clear hi0
            refine wpOp_step (by rfl) (fun K hK => ?_)
            refine step_call rfl _ #[x.dv] (by go_simp) (cloneD_any x.dv x.f.docs w3 HX3.out.docs (by have := HX3.out.few; omega)) ?_
            rintro e w4 ⟨v1, rfl, hd1, hb4⟩
            refine ⟨v1, rfl, hK _ _ ⟨trivial, ?_⟩⟩
            clear hK K
            have HD1 := Lib.hid hd1
            have HX4 := Lib.hid (HX3.out.below hb4)
            have HO4 : Hid (∀ y ∈ ys, FOk w4 y) := Lib.hid (fun y hy => (HO3.out y hy).below hb4)
            have HF4 := Lib.hid (HF3.out.kept (below_grown hb4 none) (fun b e => by cases e))
            have HG4 := Lib.hid ((hb4.block X hz3).trans HG3.out)
            have HB4 := Lib.hid (HB3.out.trans (hb4.mono HB3.out.size))
            have hz4 : X < w4.heap.size := Nat.lt_of_lt_of_le hz3 hb4.size
            clear hd1 hb4 h35 h37
            have h37 : w4.cell? ⟨X, 37, none⟩ = some x.ev := by rw [cell_of_row w4 X 37 _ _ _ HG4.out]; exact fcells_at HX.out.inv 5
            simp only [List.getElem_toArray, List.getElem_cons_succ, List.getElem_cons_zero, Act.put, List.setIfInBounds_toArray, List.set_cons_succ, List.set_cons_zero]
            refine wpAnyH_take (i := 8) (v := .pointer (some ⟨X, 32, none⟩)) rfl (by kernel_rfl) (by kernel_rfl) (by kernel_rfl) (fun _ _ _ h => h) (Or.inl ⟨by rfl, fun W _ => by go_simp⟩) trivial ?_
            simp only [List.getElem_toArray, List.getElem_cons_succ, List.getElem_cons_zero, Act.put, List.setIfInBounds_toArray, List.set_cons_succ, List.set_cons_zero]
            refine wpAnyH_take (i := 9) (v := .pointer (some ⟨X, 35, none⟩)) rfl (by kernel_rfl) (by kernel_rfl) (by kernel_rfl) (fun _ _ _ h => h) (Or.inl ⟨by rfl, fun W _ => by go_simp⟩) trivial ?_
            simp only [List.getElem_toArray, List.getElem_cons_succ, List.getElem_cons_zero, Act.put, List.setIfInBounds_toArray, List.set_cons_succ, List.set_cons_zero]
            refine wpAnyH_all (rs := [7]) (by kernel_rfl) (by simp) ?_
            intro i0 hi0
            obtain rfl : i0 = 7 := by simpa using hi0
            clear hi0
            refine wpOp_step (by rfl) (fun K hK => ?_)
            refine step_call rfl _ #[x.ev] (by go_simp) (cloneD_any x.ev x.f.ddocs w4 HX4.out.ddocs (by have := HX4.out.dfew; omega)) ?_
            rintro e w5 ⟨v2, rfl, hd2, hb5⟩
            refine ⟨v2, rfl, hK _ _ ⟨trivial, ?_⟩⟩
            clear hK K
            have HD2 := Lib.hid hd2
            replace HD1 := Lib.hid (HD1.out.below hb5)
            have HO5 : Hid (∀ y ∈ ys, FOk w5 y) := Lib.hid (fun y hy => (HO4.out y hy).below hb5)
            have HF5 := Lib.hid (HF4.out.kept (below_grown hb5 none) (fun b e => by cases e))
            have HG5 := Lib.hid ((hb5.block X hz4).trans HG4.out)
            have HB5 := Lib.hid (HB4.out.trans (hb5.mono HB4.out.size))
            clear hd2 hb5 h37
            simp only [List.getElem_toArray, List.getElem_cons_succ, List.getElem_cons_zero, Act.put, List.setIfInBounds_toArray, List.set_cons_succ, List.set_cons_zero]
            refine wpAnyH_all (rs := [10]) (by kernel_rfl) (by simp) ?_
            intro i0 hi0
            obtain rfl : i0 = 10 := by simpa using hi0
            clear hi0
            have h35 : w5.cell? ⟨X, 35, none⟩ = some x.dv := by rw [cell_of_row w5 X 35 _ _ _ HG5.out]; exact fcells_at HX.out.inv 3
            refine wpOp_step (by rfl) (fun K hK => step_set rfl 55 _ _ rfl X 35 rfl v1 rfl _ h35 (frozen_row HG5.out) digs_size HD1.out.one (hK _ _ ⟨trivial, ?_⟩))
            clear hK K h35
            have HG6 := Lib.hid (setCell_heap 35 v1 HG5.out)
            have hsg6 := set_grown w5 X 35 v1
            have ht6 : ∀ b, some X = some b → ∃ cs t fr, w5.heap[b]? = some (.cells cs t fr) ∧ t ≠ 24 := fun b e => by cases e; exact ⟨_, _, _, HG5.out, by decide⟩
            replace HD1 := Lib.hid (HD1.out.grow hsg6 ht6)
            replace HD2 := Lib.hid (HD2.out.grow hsg6 ht6)
            have HO6 : Hid (∀ y ∈ ys, FOk (w5.setCell ⟨X, 35, none⟩ v1) y) := Lib.hid (fun y hy => (HO5.out y hy).grow hsg6 ht6)
            have HF6 := Lib.hid (HF5.out.kept hsg6 (fun b e h => by cases e; have := HBL.out _ h; omega))
            have HB6 := Lib.hid (HB5.out.trans (grown_below hsg6 hwx HB5.out.size))
            clear hsg6 ht6
            generalize w5.setCell ⟨X, 35, none⟩ v1 = w6 at *
            simp only [List.getElem_toArray, List.getElem_cons_succ, List.getElem_cons_zero, Act.put, List.setIfInBounds_toArray, List.set_cons_succ, List.set_cons_zero]
            refine wpAnyH_take (i := 11) (v := .pointer (some ⟨X, 36, none⟩)) rfl (by kernel_rfl) (by kernel_rfl) (by kernel_rfl) (fun _ _ _ h => h) (Or.inl ⟨by rfl, fun W _ => by go_simp⟩) trivial ?_
            simp only [List.getElem_toArray, List.getElem_cons_succ, List.getElem_cons_zero, Act.put, List.setIfInBounds_toArray, List.set_cons_succ, List.set_cons_zero]
            refine wpAnyH_take (i := 12) (v := .pointer (some ⟨X, 37, none⟩)) rfl (by kernel_rfl) (by kernel_rfl) (by kernel_rfl) (fun _ _ _ h => h) (Or.inl ⟨by rfl, fun W _ => by go_simp⟩) trivial ?_
            simp only [List.getElem_toArray, List.getElem_cons_succ, List.getElem_cons_zero, Act.put, List.setIfInBounds_toArray, List.set_cons_succ, List.set_cons_zero]
            refine wpAnyH_all (rs := [13]) (by kernel_rfl) (by simp) ?_
            intro i0 hi0
            obtain rfl : i0 = 13 := by simpa using hi0
            clear hi0
            have h37 : w6.cell? ⟨X, 37, none⟩ = some x.ev := by rw [cell_of_row w6 X 37 _ _ _ HG6.out, Array.getElem?_setIfInBounds_ne (by omega)]; exact fcells_at HX.out.inv 5
            refine wpOp_step (by rfl) (fun K hK => step_set rfl 55 _ _ rfl X 37 rfl v2 rfl _ h37 (frozen_row HG6.out) digs_size HD2.out.one (hK _ _ ⟨trivial, ?_⟩))
            clear hK K h37
            have HG7 := Lib.hid (setCell_heap 37 v2 HG6.out)
            rw [fcells_set HX.out.inv] at HG7
            have hsg7 := set_grown w6 X 37 v2
            have ht7 : ∀ b, some X = some b → ∃ cs t fr, w6.heap[b]? = some (.cells cs t fr) ∧ t ≠ 24 := fun b e => by cases e; exact ⟨_, _, _, HG6.out, by decide⟩
            have HY7 : Hid (FOk (w6.setCell ⟨X, 37, none⟩ v2) ⟨x.f, v1, v2⟩) := Lib.hid ⟨HX.out.inv, HD1.out.grow hsg7 ht7, HD2.out.grow hsg7 ht7, HX.out.few, HX.out.dfew, HX.out.id⟩
            have HO7 : Hid (∀ y ∈ ys, FOk (w6.setCell ⟨X, 37, none⟩ v2) y) := Lib.hid (fun y hy => (HO6.out y hy).grow hsg7 ht7)
            have HF7 := Lib.hid (HF6.out.kept hsg7 (fun b e h => by cases e; have := HBL.out _ h; omega))
            have HB7 := Lib.hid (HB6.out.trans (grown_below hsg7 hwx HB6.out.size))
            clear hsg7 ht7 HD1 HD2 HO6 HF6 HB6 HG6
            refine wpAnyH_done (by kernel_rfl) ?_ _
            generalize w6.setCell ⟨X, 37, none⟩ v2 = w7 at *
            simp only [List.getElem_toArray, List.getElem_cons_succ, List.getElem_cons_zero, Act.put, List.setIfInBounds_toArray, List.set_cons_succ, List.set_cons_zero]
            have hb8 : Below w7.heap.size w7 (w7.alloc (.cells (fcells ⟨x.f, v1, v2⟩) 64)) := (Below.refl _ w7).alloc (Nat.le_refl _) _
            have HY8 := Lib.hid (HY7.out.below hb8)
            have HO8 : Hid (∀ y ∈ ys, FOk (w7.alloc (.cells (fcells ⟨x.f, v1, v2⟩) 64)) y) := Lib.hid (fun y hy => (HO7.out y hy).below hb8)
            have HF8 := Lib.hid (HF7.out.kept (below_grown hb8 none) (fun b e => by cases e))
            have HB8 := Lib.hid (HB7.out.trans (hb8.mono HB7.out.size))
            have HR8 : Hid ((w7.alloc (.cells (fcells ⟨x.f, v1, v2⟩) 64)).rangeAt w7.heap.size 0 (fl ⟨x.f, v1, v2⟩)) := Lib.hid (find_range (heap_alloc_new w7 _))
            clear hb8
            go_wp2_with (first | (refine wl_loadF rfl _ rfl X 0 rfl ⟨x.f, v1, v2⟩ HX.out.inv (find_range HG7.out) ?_) | (refine wl_build1F rfl _ rfl ⟨x.f, v1, v2⟩ HX.out.inv rfl ?_) | (refine wl_append1F rfl _ _ rfl w.heap.size (.slice oa ys.length oc) ys rfl HF8.out w7.heap.size ⟨x.f, v1, v2⟩ HY8.out rfl HR8.out (by omega) HB8.out.size ?_; intro v9 w9 hf9 hg9) | fail)
            have ht9 : ∀ b, (Value.slice oa ys.length oc).ownBlock = some b → ∃ cs t fr, (w7.alloc (.cells (fcells ⟨x.f, v1, v2⟩) 64)).heap[b]? = some (.cells cs t fr) ∧ t ≠ 24 := fun b e => by
              obtain ⟨_, cur, hc⟩ := HF8.out.block e
              exact ⟨_, _, _, hc, by decide⟩
            have HO9 : Hid (∀ y ∈ ys ++ [⟨x.f, v1, v2⟩], FOk w9 y) := Lib.hid (fun y hy => by
              rcases List.mem_append.1 hy with hy | hy
              · exact (HO8.out y hy).grow hg9 ht9
              · rw [List.mem_singleton.1 hy]; exact HY8.out.grow hg9 ht9)
            have HB9 : Hid (Below w.heap.size w w9) := Lib.hid (HB8.out.trans ⟨hg9.os, hg9.tape, hg9.output, hg9.size, fun q hq => hg9.block q (Nat.lt_of_lt_of_le hq HB8.out.size) (fun e => by have := (HF8.out.block e.symm).1; omega)⟩)
            have HF9 := Lib.hid hf9
            clear hf9 hg9 ht9
            go_wp2
            go_roundw
            case rel => exact ⟨k + 1, ys ++ [⟨x.f, v1, v2⟩], by omega, by go_num, by rw [HN.out, List.map_append, HYS.out]; rfl, by simp; omega, HF9.out, HO9.out, HB9.out⟩
            case measure => simp [intOf]; omega
          -- REGION END
        · have HN : Hid (V.openL ((xs.map FV.f).take (k + 1)) sev = V.openL ((xs.map FV.f).take k) sev) := Lib.hid (by rw [HST.out, hop, decide_eq_false hs]; simp)
          clear hop HST
          go_wp2
          go_roundw
          case rel => exact ⟨k + 1, ys, by omega, by go_num, by rw [HN.out]; exact HYS.out, by omega, HF2.out, HO2.out, HB2.out⟩
          case measure => simp [intOf]; omega
    · obtain rfl : k = xs.length := by omega
      have HW : Hid (ys.map FV.f = V.openL (xs.map FV.f) sev) := Lib.hid (by rw [HYS.out, List.take_of_length_le (by simp)])
      go_wp2
      go_ret
      exact ⟨_, ys, rfl, HFR.out.finds HOK.out, HW.out, hyl, HBX.out⟩
end Go.Proofs.Ytoiabbhppbghdaa
