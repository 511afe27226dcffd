/-
  Laws at the operations of both Encodes of inventories.
-/
import Derived.Test.YtpjjkbdkgaehkaaGreatDoorDL
import Derived.Test.YtpjjkbdkgaehkaaGreatDoorIK
import Derived.Test.YtpjjkbdkgaehkaaGreatDoorJDR
import Derived.Test.YtpjjkbdkgaehkaaGreatDoorIO
import Derived.Test.YtpjjkbdkgaehkaaGreatDoorDF
import Derived.Deep.RegionHeld3
namespace Go.Proofs.YtpjjkbdkgaehkaaGreatDoor
open Go.RowKit

theorem cell_keep {W W' : World} {b o : Nat} {v : Value} (hb : Below W.heap.size W W') (h : W.cell? ⟨b, o, none⟩ = some v) : W'.cell? ⟨b, o, none⟩ = some v :=
  (hb.cell (p := ⟨b, o, none⟩) (World.block_lt_of_cell? _ _ h)).trans h
def wordsV (l : List V.Bs) : Array Value := (l.map fun x => Value.string ⟨x.toArray⟩).toArray
theorem infoS : ∃ i, Tryz.prog.info? 9 = some i ∧ i.zero = some (.string ⟨#[]⟩) ∧ i.size = 1 ∧ i.bytes = 16 := by
  have h : (Tryz.prog.info? 9).map (fun i => (i.zero, i.size, i.bytes)) = some (some (.string ⟨#[]⟩), 1, 16) := by kernel_rfl
  obtain ⟨i, hi, hzz⟩ := Option.map_eq_some_iff.1 h
  simp only [Prod.mk.injEq] at hzz
  exact ⟨i, hi, hzz.1, hzz.2.1, hzz.2.2⟩
/-- a line of three words laid, as a step of a region that draws -/
theorem step_build3L {ops : Array Oper} {o : Oper} {a : Act} {w : World} {K : Act → World → Prop} {Q : Exit → Act → World → Prop} {E : Prop} (hgd : o.guard = none) (e1 e2 e3 : Operand) (ho : o.op = .buildSlice 49 3 #[(0, e1), (1, e2), (2, e3)])
    (s1 s2 s3 : V.Bs) (h1 : a.eval e1 = .string ⟨s1.toArray⟩) (h2 : a.eval e2 = .string ⟨s2.toArray⟩) (h3 : a.eval e3 = .string ⟨s3.toArray⟩)
    (h : K (a.put o.dst (.slice (some ⟨w.heap.size, 0, none⟩) 3 3)) (w.alloc (.cells (wordsV [s1, s2, s3]) 9))) : if Region.wanted o (yielded ops a.tmps) = true then Oper.wp Tryz.prog o a w K Q else E := by
  rw [if_pos (by simp [Region.wanted, hgd])]
  obtain ⟨i, hi, hz, hs, hb⟩ := infoS
  refine wp_buildSlice _ 9 3 _ ho (wordsV [s1, s2, s3]) i _ Tryz.underlying49 hi hz (by rw [hs]; decide) (by rw [hs]; decide) ?_ h
  have := Great.fill_whole (s := 1) (by decide) [Value.string ⟨s1.toArray⟩, Value.string ⟨s2.toArray⟩, Value.string ⟨s3.toArray⟩] ((Array.range (3 * i.size)).map ((Value.string ⟨#[]⟩).cells[· % (Value.string ⟨#[]⟩).cells.size]!)) (fun v hv => by
    simp only [List.mem_cons, List.not_mem_nil, or_false] at hv
    rcases hv with rfl | rfl | rfl <;> rfl) (by rw [hs]; simp)
  rw [hs] at this ⊢
  simp only [h1, h2, h3, List.map_toArray, List.map_cons, List.map_nil]
  exact this
/-- a line of six words laid -/
theorem step_build6L {ops : Array Oper} {o : Oper} {a : Act} {w : World} {K : Act → World → Prop} {Q : Exit → Act → World → Prop} {E : Prop} (hgd : o.guard = none) (e1 e2 e3 e4 e5 e6 : Operand) (ho : o.op = .buildSlice 49 6 #[(0, e1), (1, e2), (2, e3), (3, e4), (4, e5), (5, e6)])
    (s1 s2 s3 s4 s5 s6 : V.Bs) (h1 : a.eval e1 = .string ⟨s1.toArray⟩) (h2 : a.eval e2 = .string ⟨s2.toArray⟩) (h3 : a.eval e3 = .string ⟨s3.toArray⟩) (h4 : a.eval e4 = .string ⟨s4.toArray⟩) (h5 : a.eval e5 = .string ⟨s5.toArray⟩) (h6 : a.eval e6 = .string ⟨s6.toArray⟩)
    (h : K (a.put o.dst (.slice (some ⟨w.heap.size, 0, none⟩) 6 6)) (w.alloc (.cells (wordsV [s1, s2, s3, s4, s5, s6]) 9))) : if Region.wanted o (yielded ops a.tmps) = true then Oper.wp Tryz.prog o a w K Q else E := by
  rw [if_pos (by simp [Region.wanted, hgd])]
  obtain ⟨i, hi, hz, hs, hb⟩ := infoS
  refine wp_buildSlice _ 9 6 _ ho (wordsV [s1, s2, s3, s4, s5, s6]) i _ Tryz.underlying49 hi hz (by rw [hs]; decide) (by rw [hs]; decide) ?_ h
  have := Great.fill_whole (s := 1) (by decide) [Value.string ⟨s1.toArray⟩, Value.string ⟨s2.toArray⟩, Value.string ⟨s3.toArray⟩, Value.string ⟨s4.toArray⟩, Value.string ⟨s5.toArray⟩, Value.string ⟨s6.toArray⟩] ((Array.range (6 * i.size)).map ((Value.string ⟨#[]⟩).cells[· % (Value.string ⟨#[]⟩).cells.size]!)) (fun v hv => by
    simp only [List.mem_cons, List.not_mem_nil, or_false] at hv
    rcases hv with rfl | rfl | rfl | rfl | rfl | rfl <;> rfl) (by rw [hs]; simp)
  rw [hs] at this ⊢
  simp only [h1, h2, h3, h4, h5, h6, List.map_toArray, List.map_cons, List.map_nil]
  exact this
/-- one line laid for an append -/
theorem step_build1L {ops : Array Oper} {o : Oper} {a : Act} {w : World} {K : Act → World → Prop} {Q : Exit → Act → World → Prop} {E : Prop} (hgd : o.guard = none) (e1 : Operand) (ho : o.op = .buildSlice 64 1 #[(0, e1)])
    (u : Lsl) (h1 : a.eval e1 = u.v)
    (h : K (a.put o.dst (.slice (some ⟨w.heap.size, 0, none⟩) 1 1)) (w.alloc (.cells #[u.v] 49))) : if Region.wanted o (yielded ops a.tmps) = true then Oper.wp Tryz.prog o a w K Q else E := by
  rw [if_pos (by simp [Region.wanted, hgd])]
  obtain ⟨ie, z, hie, hz, q1, q2, q3⟩ := lineInfo
  refine wp_buildSlice _ 49 1 _ ho #[u.v] ie z Tryz.underlying64 hie hz (by rw [q1]; decide) (by rw [q1]; decide) ?_ h
  have := Great.fill_whole (s := 1) (by decide) [u.v] ((Array.range (1 * ie.size)).map (z.cells[· % z.cells.size]!)) (fun v hv => by
    rw [List.mem_singleton.1 hv]; rfl) (by rw [q1]; simp)
  rw [q1] at this ⊢
  simp only [h1, List.map_toArray, List.map_cons, List.map_nil]
  exact this
theorem cell_line (w : World) (u : Lsl) : ∀ j v, (lslE u)[j]? = some v → (w.alloc (.cells #[u.v] 49)).cell? ⟨w.heap.size, j, none⟩ = some v := fun j v h => by
  rw [World.cell?_alloc_new]
  simpa [lslE] using h
/-- the digest of a component -/
theorem range_dig4 {c : V.Comp} {w : World} {b o : Nat} (h : w.rangeAt b o (cellsL c)) : w.rangeAt b (o + 4) (dcellsL c.dig) := fun j v hv => by
  have := h (j + 4) v (by unfold cellsL; simpa [dcellsL] using hv)
  rwa [show o + 4 + j = o + (j + 4) by omega]
theorem digFormat_d {d : List Int} (hd : d.length = 32) (hw : ∀ n ∈ d, (Lit.int .u8 n).wf = true) (w : World) :
    Calls Tryz.prog 26 #[.agg (dcells d)] w fun e w' => e = .returned (.string ⟨(V.fmtB (V.bytesD d)).toArray⟩) ∧ Below w.heap.size w w' := by
  have := digFormat_any (V.bytesD d) w (by rw [V.bytesD_len, hd])
  rwa [bytesD_vals hw] at this
theorem rFormat_d {d : List Int} (hd : d.length = 32) (hw : ∀ n ∈ d, (Lit.int .u8 n).wf = true) (w : World) :
    Calls Tryz.prog 30 #[.agg (dcells d)] w fun e w' => e = .returned (.string ⟨(V.fmtB (V.bytesD d)).toArray⟩) ∧ Below w.heap.size w w' := by
  have := rFormat_any (V.bytesD d) w (by rw [V.bytesD_len, hd])
  rwa [bytesD_vals hw] at this
theorem docNumber_i {n : Int} (h0 : 0 ≤ n) (h1 : n ≤ 2199023255552) (w : World) (hp : PowOk w) :
    Calls Tryz.prog 27 #[.int .i64 n] w fun e w' => e = .returned (.string ⟨(Lib.decDigits n.toNat).toArray⟩) ∧ Below w.heap.size w w' := by
  have := docNumber_any n.toNat w (by omega) hp
  rwa [Int.toNat_of_nonneg h0] at this
theorem rdocNumber_i {n : Int} (h0 : 0 ≤ n) (h1 : n ≤ 2199023255552) (w : World) :
    Calls Tryz.prog 31 #[.int .i64 n] w fun e w' => e = .returned (.string ⟨(Lib.decDigits n.toNat).toArray⟩) ∧ Below w.heap.size w w' := by
  have := rdocNumber_any n.toNat w (by omega)
  rwa [Int.toNat_of_nonneg h0] at this
/-- what an Encode of an inventory returns -/
def EncR (d : List Int) (t : Int) (l : List V.Comp) (w : World) (e : Ending) (w' : World) : Prop :=
  (V.invOk d t l = true → ∃ u N W0, e = .returned (.tuple #[u, .int .i64 0]) ∧ Buf N u (V.doc (V.invLines d t l l.length)) W0 w') ∧
  (V.invOk d t l = false → e = .returned (.tuple #[.slice none 0 0, .int .i64 1])) ∧ Below w.heap.size w w'
/-- what is kept in the loop over the components -/
structure EncS (N : Nat) (W0 : World) (v : Value) (ls : List (List V.Bs)) (w : World) : Prop where
  row : ∃ us, LRow N w v us ls
  below : Below N W0 w
  size : N ≤ w.heap.size
theorem compOk_sch {c : V.Comp} (h : V.compOk c = true) : c.sch = 1 ∨ c.sch = 2 ∨ c.sch = 3 := by
  unfold V.compOk V.valid V.schOk at h
  by_cases h1 : c.sch = 1
  · exact .inl h1
  · by_cases h2 : c.sch = 2
    · exact .inr (.inl h2)
    · by_cases h3 : c.sch = 3
      · exact .inr (.inr h3)
      · simp [h1, h2, h3] at h
end Go.Proofs.YtpjjkbdkgaehkaaGreatDoor
