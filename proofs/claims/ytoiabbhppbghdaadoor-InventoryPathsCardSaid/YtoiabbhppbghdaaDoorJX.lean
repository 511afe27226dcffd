/-
  Walk: inventory.Children.
-/
import Derived.Test.YtoiabbhppbghdaaDoorJN
import Derived.Test.YtoiabbhppbghdaaDoorJS
namespace Go.Proofs.YtoiabbhppbghdaaDoor
open Go.RowKit

namespace V
/-- the components up to place k that p contains -/
def kidsTo (l : List Comp) (p : Int) (k : Nat) : List Nat := (List.range k).filter fun i => match l[i]? with | some c => c.par == p | none => false
def kids (l : List Comp) (p : Int) : List Nat := kidsTo l p l.length
theorem kidsTo_step {l : List Comp} {p : Int} {k : Nat} (h : k < l.length) : kidsTo l p (k + 1) = if (l[k].par == p) = true then kidsTo l p k ++ [k] else kidsTo l p k := by
  unfold kidsTo
  rw [List.range_succ, List.filter_append]
  simp only [List.filter_cons, List.filter_nil, List.getElem?_eq_getElem h]
  split <;> simp
theorem kidsTo_len (l : List Comp) (p : Int) (k : Nat) : (kidsTo l p k).length ≤ k := by
  have := List.length_filter_le (fun i => match l[i]? with | some c => c.par == p | none => false) (List.range k)
  simpa [kidsTo] using this
end V

/-- a row of numbers of one's own -/
def IRow (w : World) (N : Nat) (v : Value) (l : List Nat) : Prop := w.ownsRow N 3 1 v l.length (l.map fun (i : Nat) => Value.int .i64 (i : Int))
theorem IRow.nil (w : World) (N : Nat) : IRow w N (.slice none 0 0) [] := ⟨rfl, .inl ⟨rfl, rfl⟩⟩
theorem IRow.slice {w : World} {N : Nat} {v : Value} {l : List Nat} (h : IRow w N v l) : ∃ a cap, v = .slice a l.length cap := by
  rcases h.2 with ⟨rfl, hn⟩ | ⟨g, cap, cur, rfl, _⟩
  · exact ⟨none, 0, by rw [hn]⟩
  · exact ⟨_, cap, rfl⟩
theorem IRow.kept {w w' : World} {N : Nat} {v : Value} {l : List Nat} (h : IRow w N v l) {row : Option Nat} (hg : w.grownBy w' row) (hr : ∀ b, row = some b → b < N) : IRow w' N v l := by
  obtain ⟨hx, h⟩ := h
  refine ⟨hx, ?_⟩
  rcases h with h | ⟨g, cap, cur, rfl, hb, hgg, rest⟩
  · exact .inl h
  · refine .inr ⟨g, cap, cur, rfl, hb, ?_, rest⟩
    rw [hg.block g (Array.getElem?_eq_some_iff.1 hgg).1 (fun e => by have := hr g e.symm; omega)]
    exact hgg
theorem IRow.block {w : World} {N : Nat} {v : Value} {l : List Nat} (h : IRow w N v l) : ∀ b, v.ownBlock = some b → N ≤ b := by
  intro b hb
  rcases h.2 with ⟨rfl, _⟩ | ⟨g, cap, cur, rfl, hbb, _⟩
  · cases hb
  · simp [Value.ownBlock] at hb; omega
theorem info_int19 : (Tryd.prog.info? 3).map (fun i => (i.zero, i.size, i.bytes)) = some (some (.int .i64 0), 1, 8) := by kernel_rfl
/-- at the operation: a number appended -/
theorem wl_appendI {ops : Array Oper} {rest : List Oper} {o : Oper} {a : Act} {w : World} {Q : Exit → Act → World → Prop} (hgd : o.guard = none) (s x : Operand)
    (ho : o.op = .call { callee := .builtin .append, args := #[s, x], argTypes := #[27, 27] })
    (N : Nat) (v : Value) (l : List Nat) (hs : a.eval s = v) (hown : IRow w N v l) (b : Nat) (i : Nat) (hx : a.eval x = .slice (some ⟨b, 0, none⟩) 1 1) (hr : w.cell? ⟨b, 0, none⟩ = some (.int .i64 (i : Int))) (hl : l.length ≤ 1000000) (hN : N ≤ w.heap.size)
    (h : ∀ v' w', IRow w' N v' (l ++ [i]) → w.grownBy w' v.ownBlock → wpList Tryd.prog ops Q rest (a.put o.dst v') w') : wpList Tryd.prog ops Q (o :: rest) a w := by
  obtain ⟨i0, hi, hz0, hz1, hz2⟩ := info_parts info_int19
  refine wpList_append_own w hgd s x 27 ho N 3 i0 (.int .i64 0) 1 8 Tryd.underlying27 hi hz0 hz1 hz2 rfl (by decide) v l.length _ hs hown ⟨b, 0, none⟩ 1 1 [.int .i64 (i : Int)] hx rfl ?_ ?_ (by unfold maxLen; omega) (by omega) hN ?_
  · intro j u hj
    have : j = 0 := by
      have := (List.getElem?_eq_some_iff.1 hj).1
      simpa using this
    subst this
    rw [Addr.add_mid]
    simpa [hr] using hj
  · intro u hu
    rw [List.mem_singleton.1 hu]; rfl
  · intro v' w' ho' hg _
    refine h v' w' ?_ hg
    unfold IRow
    rw [List.length_append, List.map_append]
    exact ho'

def KidsPost (l : List V.Comp) (p : Int) (w : World) (e : Ending) (w' : World) : Prop :=
  ∃ v, e = .returned v ∧ IRow w' w.heap.size v (V.kids l p) ∧ Below w.heap.size w w'

set_option maxRecDepth 100000 in
set_option maxHeartbeats 1600000 in
theorem kids_any (d : List Int) (time : Int) (v : Value) (l : List V.Comp) (p : Int) (w : World) (hd : d.length = 32) (hv : Comps w v l) (hl : l.length ≤ 100000) :
    Calls Tryd.prog 10 #[.agg (icells d time v), .int .i64 p] w (KidsPost l p w) := by
  have HL := Lib.hid hv
  have h33 := icells_33 hd time v
  obtain ⟨va, vc, rfl, hjunk⟩ := hv
  clear hd hjunk
  generalize icells d time (.slice va l.length vc) = ic at *
  go_enter Tryd.func10, Tryd.ntmps10
  go_wp2
  have HB0 := Lib.hid ((Below.refl w.heap.size w).alloc (Nat.le_refl _) (.cells ic 26))
  go_loopw [5, 11] (fun ov iv wr => ∃ k : Nat, k ≤ l.length ∧ iv = .int .i64 k ∧ IRow wr w.heap.size ov (V.kidsTo l p k) ∧ Below w.heap.size w wr) (fun _ iv _ => l.length - (intOf iv).toNat)
  case atStart => exact ⟨0, Nat.zero_le _, rfl, IRow.nil _ _, HB0.out⟩
  case round =>
    obtain ⟨k, hk, rfl, hir, hbr⟩ := hrel
    have HIR := Lib.hid hir
    have HBR := Lib.hid hbr
    have hblk := hir.block
    obtain ⟨oa, oc, hov⟩ := hir.slice
    subst hov
    have hkl := V.kidsTo_len l p k
    clear hir hbr
    by_cases hlt : k < l.length
    · obtain ⟨hxw, b, off, rfl, hblt, hxr⟩ := HL.out.at k hlt
      have HST := Lib.hid (V.kidsTo_step (p := p) hlt)
      have HX := Lib.hid hxw
      have HXR := Lib.hid (rangeAt_below hxr HBR.out)
      clear hxw hxr
      generalize l[k] = x at *
      have x0 := ccells_0 x
      have hb1 : Below w.heap.size w (wr.alloc (.cells (ccells x) 35)) := HBR.out.alloc HBR.out.size _
      have hir1 : IRow (wr.alloc (.cells (ccells x) 35)) w.heap.size (.slice oa (V.kidsTo l p k).length oc) (V.kidsTo l p k) := HIR.out.kept (row := none) (World.grownBy_alloc wr _ none) (by intro b' e; cases e)
      have HB1 := Lib.hid hb1
      have HI1 := Lib.hid hir1
      clear hb1 hir1
      rcases hp : (x.par == p) with _ | _
      · have HK : Hid (V.kidsTo l p (k + 1) = V.kidsTo l p k) := Lib.hid (by rw [HST.out, hp]; rfl)
        clear HST
        go_wp2_with (first | (refine wl_load rfl _ rfl b (off + k * 36) rfl x HX.out HXR.out ?_) | (refine wl_store rfl _ _ rfl _ _ rfl x HX.out rfl rfl ?_) | fail)
        go_roundw
        case rel => exact ⟨k + 1, by omega, by go_num, by rw [HK.out]; exact HI1.out, HB1.out⟩
        case measure => simp [intOf]; omega
      · have HK : Hid (V.kidsTo l p (k + 1) = V.kidsTo l p k ++ [k]) := Lib.hid (by rw [HST.out, hp]; rfl)
        have HI2 : Hid (IRow ((wr.alloc (.cells (ccells x) 35)).alloc (.cells #[.int .i64 (k : Int)] 3)) w.heap.size (.slice oa (V.kidsTo l p k).length oc) (V.kidsTo l p k)) := Lib.hid (HI1.out.kept (row := none) (World.grownBy_alloc _ _ none) (by intro b' e; cases e))
        have HCE : Hid (((wr.alloc (.cells (ccells x) 35)).alloc (.cells #[.int .i64 (k : Int)] 3)).cell? ⟨wr.heap.size + 1, 0, none⟩ = some (.int .i64 (k : Int))) := Lib.hid (by rw [cell_alloc, if_pos (by simp)]; rfl)
        have HB2 : Hid (Below w.heap.size w ((wr.alloc (.cells (ccells x) 35)).alloc (.cells #[.int .i64 (k : Int)] 3))) := Lib.hid (HB1.out.alloc HB1.out.size _)
        clear HST
        go_wp2_with (first | (refine wl_load rfl _ rfl b (off + k * 36) rfl x HX.out HXR.out ?_) | (refine wl_store rfl _ _ rfl _ _ rfl x HX.out rfl rfl ?_) | (refine wl_appendI rfl _ _ rfl w.heap.size (.slice oa (V.kidsTo l p k).length oc) (V.kidsTo l p k) rfl HI2.out (wr.heap.size + 1) k rfl HCE.out (by omega) HB2.out.size ?_; intro v' w3 hi3 hg3) | fail)
        rw [← HK.out] at hi3
        have HI3 := Lib.hid hi3
        have HB3 : Hid (Below w.heap.size w w3) := Lib.hid ⟨hg3.os.trans HB2.out.os, hg3.tape.trans HB2.out.tape, hg3.output.trans HB2.out.output, Nat.le_trans HB2.out.size hg3.size, fun i hi => (hg3.block i (Nat.lt_of_lt_of_le hi HB2.out.size) (fun e => by have := hblk i e.symm; omega)).trans (HB2.out.block i hi)⟩
        clear hi3 hg3
        go_wp2
        go_roundw
        case rel => exact ⟨k + 1, by omega, by go_num, HI3.out, HB3.out⟩
        case measure => simp [intOf]; omega
    · obtain rfl : k = l.length := by omega
      go_wp2
      go_ret
      exact ⟨_, rfl, HIR.out, HBR.out⟩
end Go.Proofs.YtoiabbhppbghdaaDoor
