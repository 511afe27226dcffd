/-
  Walks: Contradicted: the IDs of findings, sorted, each once.
-/
import Derived.Test.YtoiabbhppbghdaaFC
import Derived.Test.YtoiabbhppbghdaaFH
import Derived.Sort.OwnSorted
namespace Go.Proofs.Ytoiabbhppbghdaa
open Go.RowKit

set_option maxRecDepth 100000 in
theorem con_any (x : FV) (w : World) (hx : DigOk x.f.inv) :
    Calls Try.prog 41 #[.agg (fcells x)] w fun e w' => e = .returned (.bool x.f.con) ∧ Below w.heap.size w w' := by
  have hb := (Below.refl w.heap.size w).alloc (Nat.le_refl _) (.cells (fcells x) 64)
  have hc : (w.alloc (.cells (fcells x) 64)).cell? ⟨w.heap.size, 38, none⟩ = some (.bool x.f.con) := by
    rw [World.cell?_alloc_new]
    exact fcells_at hx 6
  have HB := Lib.hid hb
  clear hb
  obtain ⟨s, hs⟩ : ∃ s, s = x.f.con := ⟨_, rfl⟩
  rw [← hs] at hc ⊢
  generalize fcells x = cs at *
  clear hs hx
  go_enter Try.func41, Try.ntmps41
  go_wp2
  go_ret
  exact ⟨rfl, HB.out⟩
theorem strIE3 : ∃ ie z, Try.prog.info? 9 = some ie ∧ ie.zero = some z ∧ ie.size = 1 ∧ ie.bytes = 16 ∧ z.cells.size = 1 := by
  have h : (match Try.prog.info? 9 with | some i => i.size == 1 && (i.bytes == 16 && (match i.zero with | some z => z.cells.size == 1 | none => false)) | none => false) = true := by kernel_rfl
  cases hq : Try.prog.info? 9 with
  | none => rw [hq] at h; cases h
  | some i =>
    rw [hq] at h
    simp only [Bool.and_eq_true, beq_iff_eq] at h
    obtain ⟨h1, h2, h3⟩ := h
    cases hz : i.zero with
    | none => rw [hz] at h3; cases h3
    | some z =>
      rw [hz] at h3
      exact ⟨i, z, rfl, hz, h1, h2, by simpa using h3⟩
/-- a row of strings of one's own -/
def SRow (w : World) (N : Nat) (v : Value) (S : List V.Bs) : Prop := w.ownsRow N 9 1 v S.length (S.map encStr)
theorem SRow.nil (w : World) (N : Nat) : SRow w N (.slice none 0 0) [] := ⟨rfl, .inl ⟨rfl, rfl⟩⟩
theorem SRow.slice {w : World} {N : Nat} {v : Value} {S : List V.Bs} (h : SRow w N v S) : ∃ a cap, v = .slice a S.length cap := by
  rcases h.2 with ⟨rfl, hn⟩ | ⟨g, cap, cur, rfl, _⟩
  · exact ⟨none, 0, by rw [hn]⟩
  · exact ⟨_, cap, rfl⟩
theorem SRow.kept {w w' : World} {N : Nat} {v : Value} {S : List V.Bs} (h : SRow w N v S) {row : Option Nat} (hg : w.grownBy w' row) (hr : ∀ b, row = some b → v.ownBlock ≠ some b) : SRow w' N v S := by
  obtain ⟨hx, h⟩ := h
  refine ⟨hx, ?_⟩
  rcases h with h | ⟨g, cap, cur, rfl, hb, hgg, rest⟩
  · exact .inl h
  · refine .inr ⟨g, cap, cur, rfl, hb, ?_, rest⟩
    rw [hg.block g (Array.getElem?_eq_some_iff.1 hgg).1 (fun e => hr g e.symm rfl)]
    exact hgg
theorem SRow.low {w : World} {N : Nat} {v : Value} {S : List V.Bs} (h : SRow w N v S) {g : Nat} (hb : v.ownBlock = some g) : N ≤ g := by
  rcases h.2 with ⟨rfl, _⟩ | ⟨g', cap, cur, rfl, hN, hg, _⟩
  · cases hb
  · simp [Value.ownBlock] at hb
    omega
theorem wl_append1S {ops : Array Oper} {rest : List Oper} {o : Oper} {a : Act} {w : World} {Q : Exit → Act → World → Prop} (hgd : o.guard = none) (s x : Operand)
    (ho : o.op = .call { callee := .builtin .append, args := #[s, x], argTypes := #[27, 27] })
    (N : Nat) (v : Value) (S : List V.Bs) (hs : a.eval s = v) (hown : SRow w N v S) (b : Nat) (y : V.Bs) (hx : a.eval x = .slice (some ⟨b, 0, none⟩) 1 1) (hr : w.cell? ⟨b, 0, none⟩ = some (.string ⟨y.toArray⟩)) (hl : S.length ≤ 100000) (hN : N ≤ w.heap.size)
    (h : ∀ v' w', SRow w' N v' (S ++ [y]) → w.grownBy w' v.ownBlock → wpList Try.prog ops Q rest (a.put o.dst v') w') : wpList Try.prog ops Q (o :: rest) a w := by
  obtain ⟨ie, z, hi, hz, h1, h2, h3⟩ := strIE3
  refine wpList_append_own w hgd s x 27 ho N 9 ie z 1 16 Try.underlying27 hi hz h1 h2 h3 (by decide) v S.length _ hs hown ⟨b, 0, none⟩ 1 1 [.string ⟨y.toArray⟩] hx rfl ?_ (by intro u hu; rw [List.mem_singleton.1 hu]; rfl) (by unfold maxLen; omega) (by omega) hN ?_
  · intro j u hj
    have hj0 : j = 0 := by have := (List.getElem?_eq_some_iff.1 hj).1; simpa using this
    subst hj0
    cases hj
    exact hr
  · intro v' w' ho' hg _
    refine h v' w' ?_ hg
    unfold SRow
    rw [List.length_append, List.map_append]
    exact ho'
theorem compact_len (l : List V.Bs) : (Lib.compact l).length ≤ l.length := by
  unfold Lib.compact Lib.compactUpTo
  first | simp only [List.length_map]; exact Nat.le_trans (List.length_filter_le _ _) (by simp) | (refine Nat.le_trans (List.length_filterMap_le _ _) (by simp))

def conIds (xs : List FV) : List V.Bs := (xs.filter (·.f.con)).map (·.f.id)
def conSaid (xs : List FV) : List V.Bs := Lib.compact ((conIds xs).mergeSort fun x y => decide (x ≤ y))
theorem conIds_step {xs : List FV} {k : Nat} (h : k < xs.length) : conIds (xs.take (k + 1)) = conIds (xs.take k) ++ if xs[k].f.con = true then [xs[k].f.id] else [] := by
  unfold conIds
  rw [List.take_succ_eq_append_getElem h, List.filter_append, List.map_append]
  congr 1
  by_cases hc : xs[k].f.con = true
  · rw [List.filter_cons, if_pos hc, if_pos hc]; rfl
  · rw [List.filter_cons, if_neg hc, if_neg hc]; rfl
/-- what Sort and Compact make of a row -/
theorem sort_compact (N : Nat) (v : Value) (S : List V.Bs) (w : World) (h : SRow w N v S) (hN : N ≤ w.heap.size) (hl : S.length ≤ 100000) :
    Calls Try.prog 48 #[v] w fun e w' => e = .returned (.tuple #[]) ∧ Below N w w' ∧ Calls Try.prog 49 #[v] w' fun e w'' => ∃ v', e = .returned v' ∧ Strs w'' v' (Lib.compact (S.mergeSort fun x y => decide (x ≤ y))) ∧ Below N w w'' := by
  by_cases h0 : S.length = 0
  · obtain ⟨a, cap, rfl⟩ := h.slice
    have hS : S = [] := List.eq_nil_of_length_eq_zero h0
    subst hS
    refine (Try.slices_Sort_string_none a cap w).mono ?_
    rintro e w' ⟨rfl, rfl⟩
    refine ⟨rfl, Below.refl _ _, (Try.slices_Compact_string_empty a cap w').mono ?_⟩
    rintro e w'' ⟨rfl, rfl⟩
    exact ⟨_, rfl, ⟨a, cap, by simp [Lib.compact, Lib.compactUpTo], fun j hj => by simp [Lib.compact, Lib.compactUpTo] at hj⟩, Below.refl _ _⟩
  · rcases h.2 with ⟨_, hn⟩ | ⟨g, cap, cur, rfl, hbase, hb, h1, h2, h3, h4⟩
    · exact absurd hn h0
    · have hlt := (Array.getElem?_eq_some_iff.1 hb).1
      have hts : (S.mergeSort fun x y => decide (x ≤ y)).length = S.length := List.length_mergeSort _
      refine (Try.slices_Sort_string g 0 cap S w (holds_of_block hb (by simpa using h4)) hlt (by omega)).mono ?_
      rintro e w' ⟨rfl, n, os, hw'⟩
      have hg' : w.grownBy w' (some g) := by rw [hw']; exact grownBy_sorted _
      have hb' := heap_sorted (n := n) (os := os) (S.mergeSort fun x y => decide (x ≤ y)).toArray hb
      rw [← hw'] at hb'
      generalize (S.mergeSort fun x y => decide (x ≤ y)) = ts at *
      have hH := holds_of_block hb' (take_putCells cur ts (by omega))
      refine ⟨rfl, (Below.refl _ w).grown hg' hN (by intro k e; cases e; exact hbase), ?_⟩
      rw [← hts]
      refine (Try.slices_Compact_string g 0 cap ts w' hH (by omega) (by omega)).mono ?_
      rintro e w'' ⟨rfl, q, hw''⟩
      have hcl := compact_len ts
      have hP := Sort.holds_putRow encStr (Sort.ahead w' q) g 0 ts.toArray (Lib.compact ts ++ List.replicate (ts.length - (Lib.compact ts).length) []).toArray (Sort.holds_ahead encStr w' q g 0 _ hH) (by simp; omega)
      have hg'' : w'.grownBy w'' (some g) := by
        have := grownBy_sorted (w := w') (g := g) (n := q) (os := #[]) (Lib.compact ts ++ List.replicate (ts.length - (Lib.compact ts).length) []).toArray
        rw [Sort.grow_empty] at this
        rw [hw'']; exact this
      rw [← hw''] at hP
      refine ⟨_, rfl, ⟨_, cap, rfl, fun j hj => ⟨g, 0, rfl, Nat.lt_of_lt_of_le (Nat.lt_of_lt_of_le hlt hg'.size) hg''.size, ?_⟩⟩, ((Below.refl _ w).grown hg' hN (by intro k e; cases e; exact hbase)).grown hg'' (Nat.le_trans hN hg'.size) (by intro k e; cases e; exact hbase)⟩
      have := (hP j (by simp; omega)).1
      rw [this]
      simp only [encStr]
      congr 2
      rw [getElem!_pos _ j (by simp; omega)]
      simp [hj]

set_option maxRecDepth 100000 in
set_option maxHeartbeats 1600000 in
theorem idsCon_any (v : Value) (xs : List FV) (w : World) (hv : Finds w v xs) (hl : xs.length ≤ 10000) :
    Calls Try.prog 40 #[v, .func (.func 41) #[] #[]] w fun e w' => ∃ v', e = .returned v' ∧ Strs w' v' (conSaid xs) ∧ Below w.heap.size w w' := by
  obtain ⟨va, vc, rfl, hat⟩ := hv
  have HA := Lib.hid hat
  clear hat
  go_enter Try.func40, Try.ntmps40
  go_wp2
  go_loopw [5, 10] (fun ov jv wx => ∃ k : Nat, k ≤ xs.length ∧ jv = .int .i64 k ∧ SRow wx w.heap.size ov (conIds (xs.take k)) ∧ Below w.heap.size w wx) (fun _ jv _ => xs.length - (intOf jv).toNat)
  case atStart => exact ⟨0, Nat.zero_le _, rfl, SRow.nil _ _, Below.refl _ _⟩
  case round =>
    obtain ⟨k, hk, rfl, hsr, hbx⟩ := hrel
    have HBX := Lib.hid hbx
    have HSR := Lib.hid hsr
    have HLE : Hid ((conIds (xs.take k)).length ≤ 10000) := Lib.hid (by
      unfold conIds
      rw [List.length_map]
      exact Nat.le_trans (List.length_filter_le _ _) (by simp; omega))
    obtain ⟨oa, oc, rfl⟩ := hsr.slice
    clear hbx hsr
    by_cases hlt : k < xs.length
    · obtain ⟨hok, g, off, rfl, hgl, hr⟩ := HA.out k hlt
      have HST : Hid (conIds (xs.take (k + 1)) = conIds (xs.take k) ++ if xs[k].f.con = true then [xs[k].f.id] else []) := Lib.hid (conIds_step hlt)
      have HR := Lib.hid (rangeAt_below hr HBX.out)
      have HX := Lib.hid (hok.below HBX.out)
      have hi1 : (0 : Int) ≤ (k : Int) := by omega
      have hi2 : (k : Int) < (xs.length : Int) := by omega
      clear hok hr
      generalize xs[k] = x at *
      generalize conIds (xs.take k) = S at *
      have hb1 : Below wr.heap.size wr (wr.alloc (.cells (fcells x) 64)) := (Below.refl _ wr).alloc (Nat.le_refl _) _
      have HB1 := Lib.hid (HBX.out.trans (hb1.mono HBX.out.size))
      have HG1 : Hid ((wr.alloc (.cells (fcells x) 64)).heap[wr.heap.size]? = some (.cells (fcells x) 64 (0, 0))) := Lib.hid (heap_alloc_new wr _)
      have hz1 : wr.heap.size < (wr.alloc (.cells (fcells x) 64)).heap.size := by simp
      have HS1 := Lib.hid (HSR.out.kept (below_grown hb1 none) (fun b e => by cases e))
      clear hb1
      go_wp2_with (first | (refine wl_loadF rfl _ rfl g (off + k * 39) rfl x HX.out.inv HR.out ?_) | (refine wl_storeF rfl _ _ rfl _ _ rfl x HX.out.inv (fl_one HX.out) rfl rfl ?_; generalize wr.alloc (.cells (fcells x) 64) = w1 at *; generalize wr.heap.size = X at *) | (refine wl_loadF rfl _ rfl X 0 rfl x HX.out.inv (find_range HG1.out) ?_) | fail)
      refine (con_any x w1 HX.out.inv).mono ?_
      rintro e w2 ⟨rfl, hb2⟩
      have HB2 := Lib.hid (HB1.out.trans (hb2.mono HB1.out.size))
      have HG2 := Lib.hid ((hb2.block X hz1).trans HG1.out)
      have HS2 := Lib.hid (HS1.out.kept (below_grown hb2 none) (fun b e => by cases e))
      have hc : w2.cell? ⟨X, 33, none⟩ = some (.string ⟨x.f.id.toArray⟩) := by
        rw [cell_of_row w2 X 33 _ _ _ HG2.out]
        exact fcells_at HX.out.inv 1
      clear hb2 hz1 HG1 HS1
      rcases hop : x.f.con with _ | _
      · have HN : Hid (conIds (xs.take (k + 1)) = S) := Lib.hid (by rw [HST.out, hop]; simp)
        clear hop HST
        go_wp2
        go_roundw
        case rel => exact ⟨k + 1, by omega, by go_num, by rw [HN.out]; exact HS2.out, HB2.out⟩
        case measure => simp [intOf]; omega
      · have HN : Hid (conIds (xs.take (k + 1)) = S ++ [x.f.id]) := Lib.hid (by rw [HST.out, hop]; rfl)
        obtain ⟨W3, hW3⟩ : ∃ W3, W3 = w2.alloc (.cells #[.string ⟨x.f.id.toArray⟩] 9) := ⟨_, rfl⟩
        have hb3 : Below w2.heap.size w2 W3 := by rw [hW3]; exact (Below.refl _ w2).alloc (Nat.le_refl _) _
        have hc3 : W3.cell? ⟨w2.heap.size, 0, none⟩ = some (.string ⟨x.f.id.toArray⟩) := by rw [hW3, World.cell?_alloc_new]; rfl
        have HC3 := Lib.hid hc3
        have HW3 := Lib.hid hW3
        have HB3 := Lib.hid (HB2.out.trans (hb3.mono HB2.out.size))
        have HS3 := Lib.hid (HS2.out.kept (below_grown hb3 none) (fun b e => by cases e))
        clear hop HST hW3 hb3 hc3 HB2 HS2
        go_wp2_with (first | (refine wl_build1S rfl _ rfl ⟨x.f.id.toArray⟩ rfl W3 HW3.out ?_) | (refine wl_append1S rfl _ _ rfl w.heap.size (.slice oa S.length oc) S rfl HS3.out w2.heap.size x.f.id rfl HC3.out (by have := HLE.out; omega) HB3.out.size ?_; intro v9 w9 hs9 hg9) | fail)
        have HB9 : Hid (Below w.heap.size w w9) := Lib.hid (HB3.out.grown hg9 HB3.out.size (fun b e => HS3.out.low e))
        have HS9 := Lib.hid hs9
        clear hs9 hg9
        go_wp2
        go_roundw
        case rel => exact ⟨k + 1, by omega, by go_num, by rw [HN.out]; exact HS9.out, HB9.out⟩
        case measure => simp [intOf]; omega
    · obtain rfl : k = xs.length := by omega
      rw [List.take_length] at HSR HLE ⊢
      go_wp2_with fail
      refine (sort_compact w.heap.size _ _ wr HSR.out HBX.out.size (by have := HLE.out; omega)).mono ?_
      rintro e w2 ⟨rfl, hb2, hcc⟩
      have HCC := Lib.hid hcc
      clear hb2 hcc
      go_wp2_with fail
      refine HCC.out.mono ?_
      rintro e w3 ⟨v', rfl, hs3, hb3⟩
      have HS3 := Lib.hid hs3
      have HB3 := Lib.hid (HBX.out.trans hb3)
      clear hs3 hb3
      go_wp2
      go_ret
      exact ⟨_, rfl, HS3.out, HB3.out⟩
theorem contra_any (v : Value) (xs : List FV) (w : World) (hv : Finds w v xs) (hl : xs.length ≤ 10000) :
    Calls Try.prog 29 #[v] w fun e w' => ∃ v', e = .returned v' ∧ Strs w' v' (conSaid xs) ∧ Below w.heap.size w w' := by
  have HV := Lib.hid hv
  obtain ⟨va, vc, rfl, _⟩ := hv
  go_enter Try.func29, Try.ntmps29
  go_wp2_with fail
  refine (idsCon_any _ xs w HV.out hl).mono ?_
  rintro e w' ⟨v', rfl, hs, hb⟩
  have HS := Lib.hid hs
  have HB := Lib.hid hb
  clear hs hb
  go_wp2
  go_ret
  exact ⟨_, rfl, HS.out, HB.out⟩
end Go.Proofs.Ytoiabbhppbghdaa
