/-
  Rows of components of one's own: how they read, an append; laws in regions that only read.
  Components as values, flat.
  Slices of strings: their elements as an index reads them.
  Walks: the reference of layer 6, bytes and numbers.
  Walks: the reference of layer 6, numbers without superfluous zeros.
-/
import Derived.Test.YtnhfaincdabdkaaGreatDoorJM
import Derived.Test.YtnhfaincdabdkaaGreatDoorJH
import Derived.Test.YtnhfaincdabdkaaGreatDoorL2
import Derived.Test.YtnhfaincdabdkaaGreatDoorV7
import Derived.Laws.AppendOwn
import Derived.OwnWalk
import Derived.Still
namespace Go.Proofs.YtnhfaincdabdkaaGreatDoor
open Go.RowKit

theorem cellsL_len {c : V.Comp} (h : CompWf c) : (cellsL c).length = 36 := by have := h.size; unfold ccells at this; simpa using this
theorem flat_at : ∀ {l : List V.Comp}, (∀ c ∈ l, CompWf c) → ∀ j (h : j < l.length) i, i < 36 → (l.flatMap cellsL)[j * 36 + i]? = (cellsL l[j])[i]?
  | [], _, j, h, _, _ => by simp at h
  | c :: l, hw, 0, _, i, hi => by
    rw [List.flatMap_cons, List.getElem?_append_left (by rw [cellsL_len (hw c (by simp))]; omega)]
    simp
  | c :: l, hw, j + 1, h, i, hi => by
    have hl := cellsL_len (hw c (by simp))
    rw [List.flatMap_cons, List.getElem?_append_right (by rw [hl]; omega), hl, show (j + 1) * 36 + i - 36 = j * 36 + i by omega]
    rw [flat_at (fun d hd => hw d (by simp [hd])) j (by simpa using h) i hi]
    simp
theorem flat_len : ∀ {l : List V.Comp}, (∀ c ∈ l, CompWf c) → (l.flatMap cellsL).length = l.length * 36
  | [], _ => rfl
  | c :: l, hw => by
    rw [List.flatMap_cons, List.length_append, cellsL_len (hw c (by simp)), flat_len (fun d hd => hw d (by simp [hd])), List.length_cons]
    omega

/-- a row of components of one's own -/
def CRow (w : World) (N : Nat) (v : Value) (l : List V.Comp) : Prop := w.ownsRow N 88 36 v l.length (l.flatMap cellsL) ∧ ∀ c ∈ l, CompWf c
theorem CRow.nil (w : World) (N : Nat) : CRow w N (.slice none 0 0) [] := ⟨⟨rfl, .inl ⟨rfl, rfl⟩⟩, fun c hc => by simp at hc⟩
theorem CRow.comps {w : World} {N : Nat} {v : Value} {l : List V.Comp} (h : CRow w N v l) : Comps w v l := by
  obtain ⟨⟨hx, h⟩, hw⟩ := h
  rcases h with ⟨rfl, hn⟩ | ⟨g, cap, cur, rfl, hb, hg, hnc, hm, hsz, htk⟩
  · have := List.eq_nil_of_length_eq_zero hn
    subst this
    exact Comps.nil w
  · refine ⟨_, cap, rfl, fun j hj => ⟨hw _ (List.getElem_mem hj), g, 0, rfl, (Array.getElem?_eq_some_iff.1 hg).1, fun i u hu => ?_⟩⟩
    have hi : i < 36 := by
      have := (List.getElem?_eq_some_iff.1 hu).1
      rw [cellsL_len (hw _ (List.getElem_mem hj))] at this
      exact this
    rw [cell_of_row w g _ cur _ (0, 0) hg, show 0 + j * 36 + i = j * 36 + i by omega]
    have h1 := flat_at hw j hj i hi
    rw [hu, ← htk, List.getElem?_take] at h1
    split at h1
    · simpa using h1
    · cases h1
theorem CRow.kept {w w' : World} {N : Nat} {v : Value} {l : List V.Comp} (h : CRow w N v l) {row : Option Nat} (hg : w.grownBy w' row) (hr : ∀ b, row = some b → b < N) : CRow w' N v l := by
  obtain ⟨⟨hx, h⟩, hw⟩ := h
  refine ⟨⟨hx, ?_⟩, hw⟩
  rcases h with h | ⟨g, cap, cur, rfl, hb, hgg, rest⟩
  · exact .inl h
  · refine .inr ⟨g, cap, cur, rfl, hb, ?_, rest⟩
    rw [hg.block g (Array.getElem?_eq_some_iff.1 hgg).1 (fun e => by have := hr g e.symm; omega)]
    exact hgg
theorem CRow.block {w : World} {N : Nat} {v : Value} {l : List V.Comp} (h : CRow w N v l) : ∀ b, v.ownBlock = some b → N ≤ b := by
  obtain ⟨⟨_, h⟩, _⟩ := h
  intro b hb
  rcases h with ⟨rfl, _⟩ | ⟨g, cap, cur, rfl, hbb, _⟩
  · cases hb
  · simp [Value.ownBlock] at hb; omega

theorem compIE3 : ∃ ie z, Tryz.prog.info? 88 = some ie ∧ ie.zero = some z ∧ ie.size = 36 ∧ ie.bytes = 80 ∧ z.cells.size = 36 := by
  have h : (match Tryz.prog.info? 88 with | some i => i.size == 36 && (i.bytes == 80 && (match i.zero with | some z => z.cells.size == 36 | none => false)) | none => false) = true := by kernel_rfl
  cases hq : Tryz.prog.info? 88 with
  | none => rw [hq] at h; cases h
  | some i =>
    rw [hq] at h
    simp only [Bool.and_eq_true, beq_iff_eq] at h
    obtain ⟨h1, h2, h3⟩ := h
    cases hz : i.zero with
    | none => rw [hz] at h3; cases h3
    | some z =>
      rw [hz] at h3
      exact ⟨i, z, rfl, hz, h1, h2, by simpa using h3⟩
/-- at the operation: a component appended -/
theorem wl_appendC {ops : Array Oper} {rest : List Oper} {o : Oper} {a : Act} {w : World} {Q : Exit → Act → World → Prop} (hgd : o.guard = none) (s x : Operand)
    (ho : o.op = .call { callee := .builtin .append, args := #[s, x], argTypes := #[25, 25] })
    (N : Nat) (v : Value) (l : List V.Comp) (hs : a.eval s = v) (hown : CRow w N v l) (b : Nat) (c : V.Comp) (hc : CompWf c) (hx : a.eval x = .slice (some ⟨b, 0, none⟩) 1 1) (hr : w.rangeAt b 0 (cellsL c)) (hl : l.length ≤ 1000000) (hN : N ≤ w.heap.size)
    (h : ∀ v' w', CRow w' N v' (l ++ [c]) → w.grownBy w' v.ownBlock → wpList Tryz.prog ops Q rest (a.put o.dst v') w') : wpList Tryz.prog ops Q (o :: rest) a w := by
  obtain ⟨ie, z, hi, hz, h1, h2, h3⟩ := compIE3
  refine wpList_append_own w hgd s x 25 ho N 88 ie z 36 80 Tryz.underlying25 hi hz h1 h2 h3 (by decide) v l.length (l.flatMap cellsL) hs hown.1 ⟨b, 0, none⟩ 1 1 (cellsL c) hx (cellsL_len hc) ?_ ?_ (by unfold maxLen; omega) (by omega) hN ?_
  · intro j u hj
    rw [Addr.add_mid]
    exact hr j u hj
  · intro u hu
    have := Array.all_eq_true_iff_forall_mem.1 (comp_one (c := c)) u (by unfold ccells; simpa using hu)
    exact this
  · intro v' w' ho' hg _
    refine h v' w' ⟨?_, fun d hd => ?_⟩ hg
    · rw [List.length_append, List.flatMap_append]
      simpa using ho'
    · rcases List.mem_append.1 hd with hd | hd
      · exact hown.2 d hd
      · rw [List.mem_singleton.1 hd]; exact hc
/-- at the operation: one component as a slice of its own -/
theorem wl_build1 {ops : Array Oper} {rest : List Oper} {o : Oper} {a : Act} {w : World} {Q : Exit → Act → World → Prop} (hgd : o.guard = none) (x : Operand) (ho : o.op = .buildSlice 25 1 #[(0, x)])
    (c : V.Comp) (hc : CompWf c) (hx : a.eval x = .agg (ccells c))
    (h : wpList Tryz.prog ops Q rest (a.put o.dst (.slice (some ⟨w.heap.size, 0, none⟩) 1 1)) (w.alloc (.cells (ccells c) 88))) : wpList Tryz.prog ops Q (o :: rest) a w := by
  obtain ⟨ie, z, hie, hsz, hz⟩ := compIE
  refine wpList_buildSlice hgd _ 88 1 _ ho (ccells c) ie z Tryz.underlying25 hie hz (by rw [hsz]; decide) (by rw [hsz]; decide) ?_ h
  have := Great.fill_whole (s := 36) (by decide) [Value.agg (ccells c)] ((Array.range (1 * ie.size)).map (z.cells[· % z.cells.size]!)) (fun v hv => by
    rcases List.mem_cons.1 hv with rfl | hv
    · exact hc.size
    · cases hv) (by rw [hsz]; simp)
  rw [hsz] at this ⊢
  simp only [hx, List.map_toArray, List.map_cons, List.map_nil]
  exact this.trans (by simp [Value.cells])

/-- in a region that only reads: a component loaded -/
theorem still_load {ops : Array Oper} {o : Oper} {a : Act} {w : World} {K : Act → Prop} {E : Prop} (hw : Region.wanted o (yielded ops a.tmps) = true) (x : Operand) (ho : o.op = .load 88 x)
    (b off : Nat) (hx : a.eval x = .pointer (some ⟨b, off, none⟩)) (c : V.Comp) (hc : CompWf c) (hr : w.rangeAt b off (cellsL c)) (h : K (a.put o.dst (.agg (ccells c)))) :
    if Region.wanted o (yielded ops a.tmps) = true then o.still Tryz.prog a w K else E := by
  rw [if_pos hw]
  unfold Oper.still execOp
  simp only [ho, hx, Sem.run_bind, load_comp hc hr, Result.andThen_ok, Sem.run_pure, Oper.stillUpon_value]
  exact h
/-- .. an operation that yields -/
theorem still_val {P : Program} {ops : Array Oper} {o : Oper} {a : Act} {w : World} {K : Act → Prop} {E : Prop} (hw : Region.wanted o (yielded ops a.tmps) = true) (v : Value) (he : (execOp a.eval o).run P w = .ok (.value v) w) (h : K (a.put o.dst v)) :
    if Region.wanted o (yielded ops a.tmps) = true then o.still P a w K else E := by
  rw [if_pos hw]
  unfold Oper.still
  rw [he, Oper.stillUpon_value]
  exact h
/-- .. an operation whose guard does not hold -/
theorem still_skip {P : Program} {ops : Array Oper} {o : Oper} {a : Act} {w : World} {K : Act → Prop} (hw : Region.wanted o (yielded ops a.tmps) = false) (h : K (a.put o.dst undef)) :
    if Region.wanted o (yielded ops a.tmps) = true then o.still P a w K else K (a.put o.dst undef) := by
  rw [if_neg (by rw [hw]; decide)]
  exact h
/-- .. two components compared -/
theorem still_eql {ops : Array Oper} {o : Oper} {a : Act} {w : World} {K : Act → Prop} {E : Prop} (hw : Region.wanted o (yielded ops a.tmps) = true) (x y : Operand) (ho : o.op = .binOp .eql 88 x y 88)
    (c d : V.Comp) (hc : CompWf c) (hd : CompWf d) (hx : a.eval x = .agg (ccells c)) (hy : a.eval y = .agg (ccells d)) (h : K (a.put o.dst (.bool (decide (c = d))))) :
    if Region.wanted o (yielded ops a.tmps) = true then o.still Tryz.prog a w K else E := by
  rw [if_pos hw]
  unfold Oper.still execOp
  simp only [ho, hx, hy, Sem.run_bind, run_eqGuard_agg w .eql 88 x y _ _ guard_comp, Result.andThen_ok, run_eql_struct, eq_comp hc hd, Sem.run_pure, Oper.stillUpon_value]
  exact h

theorem compsTo_append (l : List V.Comp) (c : V.Comp) : ∀ k, k ≤ l.length → V.compsTo (l ++ [c]) k = V.compsTo l k
  | 0, _ => rfl
  | k + 1, h => by
    have h1 : k < l.length := by omega
    rw [V.compsTo_step h1, V.compsTo_step (l := l ++ [c]) (by simp; omega), compsTo_append l c k (by omega)]
    rw [List.getElem_append_left h1]
    unfold V.compAt
    rw [List.take_append_of_le_length (by omega)]
theorem compsTo_more {l : List V.Comp} {c : V.Comp} (h : V.compsTo l l.length = true) (h1 : V.compOk c = true) (h2 : -1 ≤ c.par) (h3 : c.par < l.length) (h4 : c ∉ l) : V.compsTo (l ++ [c]) (l ++ [c]).length = true := by
  rw [List.length_append, List.length_singleton, V.compsTo_step (by simp), compsTo_append l c _ (Nat.le_refl _), h]
  rw [List.getElem_append_right (Nat.le_refl _)]
  simp only [Nat.sub_self, List.getElem_cons_zero, Bool.true_and]
  rw [V.compAt_iff]
  refine ⟨h1, h2, h3, ?_⟩
  rw [List.take_append_of_le_length (Nat.le_refl _), List.take_length]
  exact h4
end Go.Proofs.YtnhfaincdabdkaaGreatDoor
namespace Go.Proofs.YtnhfaincdabdkaaGreatDoor
open Go.RowKit

theorem flat_get {l : List V.Comp} (hw : ∀ c ∈ l, CompWf c) {j : Nat} {u : Value} (h : (l.flatMap cellsL)[j]? = some u) : ∃ q, ∃ hq : q < l.length, ∃ i, i < 36 ∧ j = q * 36 + i ∧ (cellsL l[q])[i]? = some u := by
  have hj := (List.getElem?_eq_some_iff.1 h).1
  rw [flat_len hw] at hj
  have hq : j / 36 < l.length := by omega
  have he : j = j / 36 * 36 + j % 36 := by omega
  refine ⟨j / 36, hq, j % 36, by omega, he, ?_⟩
  rw [← flat_at hw _ hq _ (by omega), ← he]
  exact h
theorem Comps.wf {w : World} {v : Value} {l : List V.Comp} (h : Comps w v l) : ∀ c ∈ l, CompWf c := by
  intro c hc
  obtain ⟨a, cap, rfl, hat⟩ := h
  obtain ⟨j, hj, rfl⟩ := List.mem_iff_getElem.1 hc
  exact (hat j hj).1
/-- the place of a component, -1 if there is none -/
def ixOf (l : List V.Comp) (c : V.Comp) : Int := if c ∈ l then (l.idxOf c : Nat) else -1
theorem ixOf_none {l : List V.Comp} {c : V.Comp} (h : c ∉ l) : ixOf l c = -1 := by unfold ixOf; rw [if_neg h]
theorem ixOf_at {l : List V.Comp} {k : Nat} (hk : k < l.length) (h : l[k] ∉ l.take k) : ixOf l l[k] = k := by
  unfold ixOf
  rw [if_pos (List.getElem_mem hk)]
  congr 1
  have e : l = l.take k ++ l.drop k := (List.take_append_drop k l).symm
  have h1 : l.idxOf l[k] = (l.take k ++ l.drop k).idxOf l[k] := by rw [← e]
  rw [h1, List.idxOf_append, if_neg h, List.drop_eq_getElem_cons hk, List.idxOf_cons_self]
  simp; omega
end Go.Proofs.YtnhfaincdabdkaaGreatDoor
namespace Go.Proofs.YtnhfaincdabdkaaGreatDoor
open Go.RowKit

/-- an element of a slice of strings, as an index reads it -/
theorem Strs.at {w : World} {a : Option Addr} {n cap : Nat} {l : List V.Bs} (h : Strs w (.slice a n cap) l) (j : Nat) (hj : j < l.length) :
    ∃ b off, a = some ⟨b, off, none⟩ ∧ b < w.heap.size ∧ w.cell? ⟨b, off + j, none⟩ = some (.string ⟨(l.getD j []).toArray⟩) := by
  obtain ⟨a', c, e, hc⟩ := h
  obtain ⟨b, off, ea, hb, hcell⟩ := hc j hj
  cases e
  refine ⟨b, off, ea, hb, ?_⟩
  rw [List.getD_eq_getElem?_getD, List.getElem?_eq_getElem hj]
  exact hcell

theorem Strs.slice {w : World} {v : Value} {l : List V.Bs} (h : Strs w v l) : ∃ a cap, v = .slice a l.length cap := by
  obtain ⟨a, c, e, _⟩ := h
  exact ⟨a, c, e⟩

/-- a slice of some strings: its address and its cells -/
theorem Strs.head {w : World} {v : Value} {l : List V.Bs} (h : Strs w v l) (h0 : 0 < l.length) :
    ∃ b off cap, v = .slice (some ⟨b, off, none⟩) l.length cap ∧ b < w.heap.size ∧ ∀ j, j < l.length → w.cell? ⟨b, off + j, none⟩ = some (.string ⟨(l.getD j []).toArray⟩) := by
  obtain ⟨a, c, e, hc⟩ := h
  obtain ⟨b, off, rfl, hb, _⟩ := hc 0 h0
  refine ⟨b, off, c, e, hb, fun j hj => ?_⟩
  obtain ⟨b', off', ea, _, hcell⟩ := hc j hj
  cases ea
  rw [List.getD_eq_getElem?_getD, List.getElem?_eq_getElem hj]
  exact hcell

end Go.Proofs.YtnhfaincdabdkaaGreatDoor
namespace Go.Proofs.YtnhfaincdabdkaaGreatDoor
open Go.RowKit

set_option maxHeartbeats 400000 in
theorem rdigit_any (n : Int) (w : World) :
    Calls Tryz.prog 188 #[.int .u8 n] w fun e w' => e = .returned (.bool (V.digB n)) ∧ w = w' := by
  go_enter Tryz.func188, Tryz.ntmps188
  go_wp2
  all_goals go_ret
  all_goals exact ⟨ret_bool (by unfold V.digB; simp_all; try omega), rfl⟩

set_option maxHeartbeats 400000 in
theorem rletter_any (n : Int) (w : World) :
    Calls Tryz.prog 217 #[.int .u8 n] w fun e w' => e = .returned (.bool (V.letB n)) ∧ w = w' := by
  go_enter Tryz.func217, Tryz.ntmps217
  go_wp2
  all_goals go_ret
  all_goals exact ⟨ret_bool (by unfold V.letB; simp_all; try omega), rfl⟩

theorem at_list {s : ByteArray} {k : Nat} (hlt : k < s.size) : s.data.toList[k]'(by rw [bs_size]; exact hlt) = s[k] := by simp; rfl

set_option maxRecDepth 100000 in
set_option maxHeartbeats 400000 in
theorem rdigits_any (s : ByteArray) (w : World) (hs : s.size ≤ maxLen) :
    Calls Tryz.prog 158 #[.string s] w fun e w' => e = .returned (.bool (V.digits s.data.toList)) ∧ w = w' := by
  unfold maxLen at hs
  go_enter Tryz.func158, Tryz.ntmps158
  go_wp2
  go_loop [3] (fun i => ∃ k : Nat, k ≤ s.size ∧ i = .int .i64 k ∧ (s.data.toList.take k).all V.dig = true) (fun i => s.size - (intOf i).toNat)
  case atStart => exact ⟨0, Nat.zero_le _, rfl, rfl⟩
  case round =>
    obtain ⟨k, hk, rfl, hp⟩ := hrel
    have HP := Lib.hid hp
    clear hp
    by_cases hlt : k < s.size
    · have hl : k < s.data.toList.length := by rw [bs_size]; exact hlt
      have HT := Lib.hid (V.all_take (p := V.dig) hl)
      have HE := Lib.hid (at_list hlt)
      rcases hpc : V.digB s[k].toNat with _ | _
      all_goals
        have HPC := Lib.hid hpc
        clear hpc
        go_wp2_with fail
        refine (rdigit_any _ _).mono ?_
        rintro e w' ⟨rfl, rfl⟩
        simp only [HPC.out]
        go_wp2
      · go_ret
        exact ⟨ret_bool (V.only_no (k := k) (by rw [bs_size]; exact hlt) (by rw [HE.out]; exact HPC.out)).symm, rfl⟩
      · go_round
        case rel => exact ⟨k + 1, by omega, by go_num, by rw [HT.out, HP.out, HE.out]; exact HPC.out⟩
        case measure => simp [intOf]; omega
    · have ht : (s.data.toList.take k) = s.data.toList := List.take_of_length_le (by rw [bs_size]; omega)
      rw [ht] at HP
      have HQ : Hid (V.digits s.data.toList = !s.data.toList.isEmpty) := Lib.hid (by unfold V.digits V.only; rw [HP.out]; rfl)
      clear ht
      go_wp2
      go_ret
      exact ⟨ret_bool (by rw [HQ.out, Lib.toList_data]), rfl⟩

theorem extract_one {s : ByteArray} {k : Nat} (h : k < s.size) : s.extract k (k + 1) = ⟨#[s[k]]⟩ := by
  apply bs_ext
  rw [Lib.extract_data]
  have hl : k < s.data.toList.length := by rw [bs_size]; exact h
  rw [List.drop_eq_getElem_cons hl, at_list h]
  simp

set_option maxRecDepth 100000 in
set_option maxHeartbeats 800000 in
theorem rmade_any (s o : ByteArray) (w : World) (hs : s.size ≤ maxLen) :
    Calls Tryz.prog 185 #[.string s, .string o] w fun e w' => e = .returned (.bool (V.only (V.kind o.data.toList) s.data.toList)) ∧ w = w' := by
  unfold maxLen at hs
  go_enter Tryz.func185, Tryz.ntmps185
  go_wp2
  go_loop [5] (fun i => ∃ k : Nat, k ≤ s.size ∧ i = .int .i64 k ∧ (s.data.toList.take k).all (V.kind o.data.toList) = true) (fun i => s.size - (intOf i).toNat)
  case atStart => exact ⟨0, Nat.zero_le _, rfl, rfl⟩
  case round =>
    obtain ⟨k, hk, rfl, hp⟩ := hrel
    have HP := Lib.hid hp
    clear hp
    by_cases hlt : k < s.size
    · have hl : k < s.data.toList.length := by rw [bs_size]; exact hlt
      have HT := Lib.hid (V.all_take (p := V.kind o.data.toList) hl)
      have HE := Lib.hid (at_list hlt)
      have HX := Lib.hid (extract_one hlt)
      have HK : Hid (V.kind o.data.toList s[k] = (V.letB s[k].toNat || V.digB s[k].toNat || decide (s[k] ∈ o.data.toList))) := rfl
      rcases hL : V.letB s[k].toNat with _ | _
      · have HL := Lib.hid hL
        rcases hD : V.digB s[k].toNat with _ | _
        · have HD := Lib.hid hD
          rcases hM : decide (s[k] ∈ o.data.toList) with _ | _
          all_goals
            have HM := Lib.hid hM
            rw [hL, hD, hM] at HK
            clear hL hD hM
            go_wp2_with fail
            refine (rletter_any _ _).mono ?_
            rintro e w' ⟨rfl, rfl⟩
            simp only [HL.out]
            go_wp2_with fail
            refine (rdigit_any _ _).mono ?_
            rintro e w' ⟨rfl, rfl⟩
            simp only [HD.out]
            go_wp2_with fail
            rw [HX.out]
            refine (Tryz.strings_Contains_one _ _ _).mono ?_
            rintro e w' ⟨rfl, rfl⟩
            rw [V.indexByte_mem, HM.out]
            go_wp2
          · go_ret
            exact ⟨ret_bool (V.only_no (k := k) (by rw [bs_size]; exact hlt) (by rw [HE.out]; exact HK.out)).symm, rfl⟩
          · go_round
            case rel => exact ⟨k + 1, by omega, by go_num, by rw [HT.out, HP.out, HE.out, HK.out]; rfl⟩
            case measure => simp [intOf]; omega
        · have HD := Lib.hid hD
          rw [hL, hD] at HK
          clear hL hD
          go_wp2_with fail
          refine (rletter_any _ _).mono ?_
          rintro e w' ⟨rfl, rfl⟩
          simp only [HL.out]
          go_wp2_with fail
          refine (rdigit_any _ _).mono ?_
          rintro e w' ⟨rfl, rfl⟩
          simp only [HD.out]
          go_wp2
          go_round
          case rel => exact ⟨k + 1, by omega, by go_num, by rw [HT.out, HP.out, HE.out, HK.out]; rfl⟩
          case measure => simp [intOf]; omega
      · have HL := Lib.hid hL
        rw [hL] at HK
        clear hL
        go_wp2_with fail
        refine (rletter_any _ _).mono ?_
        rintro e w' ⟨rfl, rfl⟩
        simp only [HL.out]
        go_wp2
        go_round
        case rel => exact ⟨k + 1, by omega, by go_num, by rw [HT.out, HP.out, HE.out, HK.out]; rfl⟩
        case measure => simp [intOf]; omega
    · have ht : (s.data.toList.take k) = s.data.toList := List.take_of_length_le (by rw [bs_size]; omega)
      rw [ht] at HP
      have HQ : Hid (V.only (V.kind o.data.toList) s.data.toList = !s.data.toList.isEmpty) := Lib.hid (by unfold V.only; rw [HP.out]; rfl)
      clear ht
      go_wp2
      go_ret
      exact ⟨ret_bool (by rw [HQ.out, Lib.toList_data]), rfl⟩

end Go.Proofs.YtnhfaincdabdkaaGreatDoor
namespace Go.Proofs.YtnhfaincdabdkaaGreatDoor
open Go.RowKit

set_option maxRecDepth 100000 in
set_option maxHeartbeats 400000 in
theorem rnumber_any (s : ByteArray) (w : World) (hs : s.size ≤ maxLen) :
    Calls Tryz.prog 186 #[.string s] w fun e w' => e = .returned (.bool (V.numb s.data.toList true)) ∧ w = w' := by
  have hs' := hs
  unfold maxLen at hs
  rcases hd : V.digits s.data.toList with _ | _
  · have HD := Lib.hid hd
    have HN : Hid (V.numb s.data.toList true = false) := Lib.hid (by unfold V.numb; rw [hd]; rfl)
    clear hd
    go_enter Tryz.func186, Tryz.ntmps186
    go_wp2_with fail
    refine (rdigits_any s _ hs').mono ?_
    rintro e w' ⟨rfl, rfl⟩
    simp only [HD.out]
    go_wp2
    go_ret
    exact ⟨ret_bool HN.out.symm, rfl⟩
  · have HD := Lib.hid hd
    have hp := digits_pos hd
    rw [bs_size] at hp
    have h0 := Lib.hid (at0 hp)
    have HN : Hid (V.numb s.data.toList true = (((s[0].toNat : Int) != 48) || ((s.size : Int) == 1))) := by
      refine Lib.hid ?_
      unfold V.numb
      have : (s[0] == (48 : UInt8)) = ((s[0].toNat : Int) == 48) := by
        rw [Bool.eq_iff_iff]; simp [← UInt8.toNat_inj]; omega
      rw [HD.out, h0.out, bs_size, this]
      unfold bne
      rcases (s[0].toNat : Int) == 48 with _ | _
      · simp
      · rw [Bool.eq_iff_iff]; simp; omega
    clear hd
    rcases h1 : ((s[0].toNat : Int) != 48) with _ | _
    · rw [h1] at HN
      go_enter Tryz.func186, Tryz.ntmps186
      go_wp2_with fail
      refine (rdigits_any s _ hs').mono ?_
      rintro e w' ⟨rfl, rfl⟩
      simp only [HD.out]
      go_wp2
      all_goals
        go_ret
        exact ⟨ret_bool (by rw [HN.out]; simp_all), rfl⟩
    · rw [h1] at HN
      go_enter Tryz.func186, Tryz.ntmps186
      go_wp2_with fail
      refine (rdigits_any s _ hs').mono ?_
      rintro e w' ⟨rfl, rfl⟩
      simp only [HD.out]
      go_wp2
      all_goals
        go_ret
        exact ⟨ret_bool (by rw [HN.out]; simp_all), rfl⟩
end Go.Proofs.YtnhfaincdabdkaaGreatDoor
