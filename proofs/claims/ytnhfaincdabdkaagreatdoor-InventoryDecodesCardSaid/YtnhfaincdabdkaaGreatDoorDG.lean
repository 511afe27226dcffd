/-
  Walks: a strings.Builder's WriteByte, in this program.
  Walks: the text of a digest, of the program.
  Walks: the text of a digest, of the reference. (Printed by gen_DJ.py.)
  Walks: Number, of both.
-/
import Derived.Test.YtnhfaincdabdkaaGreatDoorDB
import Derived.Test.YtnhfaincdabdkaaGreatDoorPG
import Derived.Test.YtnhfaincdabdkaaGreatDoorMR
import Derived.Lib.Builder
import Derived.Laws.Externs
import Derived.OwnWalk
import Derived.Deep.RegionHeld3
import Derived.Lib.ItoaNum
import Derived.Sort.Grow
namespace Go.Proofs.YtnhfaincdabdkaaGreatDoor
open Go.RowKit

theorem buildSz : ∃ j, Tryz.prog.info? 171 = some j ∧ j.size = 2 := by
  have h : (Tryz.prog.info? 171).map (·.size) = some 2 := by kernel_rfl
  exact Option.map_eq_some_iff.1 h
theorem buildLies : liesAt Tryz.prog Tryz.prog.depth 171 (2 / Tryz.prog.cellsOf 171) 0 171 1 = true := by kernel_rfl

set_option maxHeartbeats 1000000 in
set_option maxRecDepth 100000 in
theorem copyUsed_any (b : Nat) (w : World) (h0 : w.cell? ⟨b, 0, none⟩ = some (.pointer (some ⟨b, 0, none⟩))) :
    Calls Tryz.prog 174 #[.pointer (some ⟨b, 0, none⟩)] w fun e w' => e = .returned (.tuple #[]) ∧ w' = w := by
  obtain ⟨j, hj, _⟩ := buildSz
  go_enter Tryz.func174, Tryz.ntmps174
  go_wp2
  rw [Lib.run_neq_ptr_same w _ Tryz.underlying169 hj]
  go_wp2
  go_end0
  exact ⟨rfl, rfl⟩

set_option maxHeartbeats 1000000 in
set_option maxRecDepth 100000 in
theorem copyFresh_any (b : Nat) (w : World) (h0 : w.cell? ⟨b, 0, none⟩ = some (.pointer none)) (hsh : w.shape? b = some (171, 2)) (hfz : w.frozen? ⟨b, 0, none⟩ = false) :
    Calls Tryz.prog 174 #[.pointer (some ⟨b, 0, none⟩)] w fun e w' => e = .returned (.tuple #[]) ∧ w' = w.setCell ⟨b, 0, none⟩ (.pointer (some ⟨b, 0, none⟩)) := by
  obtain ⟨j, hj, hjs⟩ := buildSz
  go_enter Tryz.func174, Tryz.ntmps174
  go_wp2
  rw [Lib.run_to_unsafe w ⟨b, 0, none⟩ Tryz.underlying169 Tryz.underlying217 hj (by rw [hjs]; decide) hsh (Nat.zero_lt_succ 1)]
  simp only [Result.andThen]
  rw [Oper.upon_value]
  go_wp2
  rw [run_callFunc_extern Tryz.func201 (by kernel_rfl) (by kernel_rfl) (by kernel_rfl) (e := Extern.AbiNoEscape.same) (by kernel_rfl)]
  rw [Lib.run_noEscape]
  simp only [Result.andThen]
  rw [Oper.upon_value]
  go_wp2
  rw [Lib.run_from_unsafe w ⟨b, 0, none⟩ Tryz.underlying217 Tryz.underlying169 hj hsh buildLies]
  simp only [Result.andThen]
  rw [Oper.upon_value]
  go_wp2
  go_end0
  exact ⟨rfl, rfl⟩
theorem builderCopy_any (B b : Nat) (bs : List Value) (w : World) (h : Lib.IsBuilder 171 5 B b bs w) :
    Calls Tryz.prog 174 #[.pointer (some ⟨b, 0, none⟩)] w fun e w' => e = .returned (.tuple #[]) ∧ Lib.BuilderAt 171 5 B b (.pointer (some ⟨b, 0, none⟩)) bs w' ∧ Below B w w' := by
  rcases h with h | h
  · refine (copyFresh_any b w h.cell0 h.shape h.frozen0).mono ?_
    rintro e w' ⟨rfl, rfl⟩
    exact ⟨rfl, h.used _, (Below.refl B w).setCell (p := ⟨b, 0, none⟩) h.1 _⟩
  · refine (copyUsed_any b w h.cell0).mono ?_
    rintro e w' ⟨rfl, rfl⟩
    exact ⟨rfl, h, Below.refl B _⟩
theorem byteIE : ∃ i, Tryz.prog.info? 5 = some i ∧ i.zero = some (.int .u8 0) ∧ i.size = 1 ∧ i.bytes = 1 := by
  have h : (Tryz.prog.info? 5).map (fun i => (i.zero, i.size, i.bytes)) = some (some (.int .u8 0), 1, 1) := by kernel_rfl
  obtain ⟨i, hi, hzz⟩ := Option.map_eq_some_iff.1 h
  simp only [Prod.mk.injEq] at hzz
  exact ⟨i, hi, hzz.1, hzz.2.1, hzz.2.2⟩

theorem builder_cell1 {w : World} {b : Nat} {p v : Value} {T : TypeId} (h : w.heap[b]? = some (.cells #[p, v] T (0, 0))) : w.cell? ⟨b, 1, none⟩ = some v := by rw [Lib.cell_of_heap h]; rfl
theorem own_some {w : World} {B n : Nat} {e : TypeId} {v : Value} {xs : List Value} (h : w.ownsRow B e 1 v (n + 1) xs) : ∃ g cap, v = .slice (some ⟨g, 0, none⟩) (n + 1) cap := by
  rcases h.2 with ⟨_, h0⟩ | ⟨g, cap, cur, hv, _⟩
  · omega
  · exact ⟨g, cap, hv⟩
set_option maxHeartbeats 2000000 in
set_option maxRecDepth 100000 in
theorem writeByte_any (B b : Nat) (bs : List Value) (c : Int) (w : World) (h : Lib.IsBuilder 171 5 B b bs w) (hlen : bs.length ≤ 10000000) (hBw : B ≤ w.heap.size) :
    Calls Tryz.prog 138 #[.pointer (some ⟨b, 0, none⟩), .int .u8 c] w fun e w' => e = .returned .nilIface ∧ Lib.IsBuilder 171 5 B b (bs ++ [.int .u8 c]) w' ∧ Below B w w' := by
  have H := Lib.hid h
  clear h
  go_enter Tryz.func138, Tryz.ntmps138
  go_wp2_with fail
  refine (builderCopy_any B b bs w H.out).mono ?_
  rintro e w1 ⟨rfl, h1, hb1⟩
  obtain ⟨hB, v, hbk, hown, hne⟩ := h1
  have c1 : w1.cell? ⟨b, 1, none⟩ = some v := by rw [Lib.cell_of_heap hbk]; rfl
  obtain ⟨oa, oc, rfl⟩ : ∃ oa oc, v = .slice oa bs.length oc := by
    rcases hown.2 with ⟨hv, h0⟩ | ⟨g, cap, cur, hv, _⟩
    · exact ⟨none, 0, by rw [hv, h0]⟩
    · exact ⟨_, _, hv⟩
  have hlt : b < w1.heap.size := (Array.getElem?_eq_some_iff.1 hbk).1
  have HBK := Lib.hid hbk
  have HOWN := Lib.hid hown
  have HNE := Lib.hid hne
  have HB1 := Lib.hid hb1
  clear hbk hown hne hb1 H
  have hb2 : Below w1.heap.size w1 (w1.alloc (.cells #[.int .u8 c] 5)) := (Below.refl _ w1).alloc (Nat.le_refl _) _
  have HBK2 := Lib.hid ((hb2.block b hlt).trans HBK.out)
  have HOWN2 : Hid ((w1.alloc (.cells #[.int .u8 c] 5)).ownsRow B 5 1 (.slice oa bs.length oc) bs.length bs) := Lib.hid (HOWN.out.alloc _)
  have HB2 := Lib.hid (HB1.out.alloc (by have := HB1.out.size; omega) (.cells #[.int .u8 c] 5))
  have hz2 : b < (w1.alloc (.cells #[.int .u8 c] 5)).heap.size := Nat.lt_of_lt_of_le hlt hb2.size
  have HCC : Hid (∀ j u, ([Value.int .u8 c] : List Value)[j]? = some u → (w1.alloc (.cells #[.int .u8 c] 5)).cell? ((⟨w1.heap.size, 0, none⟩ : Addr).add j) = some u) := Lib.hid (by
    intro j u hj
    have hj0 : j = 0 := by have := (List.getElem?_eq_some_iff.1 hj).1; simpa using this
    subst hj0
    cases hj
    show (w1.alloc _).cell? ⟨w1.heap.size, 0, none⟩ = _
    rw [World.cell?_alloc_new]
    rfl)
  clear hb2
  obtain ⟨i, hi, hz, hs1, hs2⟩ := byteIE
  have HIE := Lib.hid (And.intro hi (And.intro hz (And.intro hs1 hs2)))
  clear hi hz hs1 hs2
  go_wp2_with (first | (at_builtin; refine wpList_append_own (w1.alloc (.cells #[.int .u8 c] 5)) rfl _ _ 22 rfl B 5 i (.int .u8 0) 1 1 Tryz.underlying22 HIE.out.1 HIE.out.2.1 HIE.out.2.2.1 HIE.out.2.2.2 rfl (by decide) (.slice oa bs.length oc) bs.length bs rfl HOWN2.out ⟨w1.heap.size, 0, none⟩ 1 1 [.int .u8 c] rfl rfl HCC.out (by intro u hu; rw [List.mem_singleton.1 hu]; rfl) (by unfold maxLen; omega) (by omega) (by have := HB2.out.size; omega) ?_; intro v9 w9 hown9 hg9 _; obtain ⟨g9, cap9, hv9⟩ := own_some hown9; subst hv9; have d1 := builder_cell1 ((hg9.block b hz2 (fun e => HNE.out e.symm)).trans HBK2.out); have f1 := Lib.frozen_of_heap ((hg9.block b hz2 (fun e => HNE.out e.symm)).trans HBK2.out) 1) | fail)
  have HBK9 := Lib.hid ((hg9.block b hz2 (fun e => HNE.out e.symm)).trans HBK2.out)
  have HOWN9 := Lib.hid hown9
  have HB9 : Hid (Below B w w9) := Lib.hid (HB2.out.grown hg9 (by have := HB2.out.size; omega) (fun k hk => (HOWN.out.lt k hk).1))
  clear hown9 hg9 HCC HOWN2 HB2 HBK2
  go_ret
  refine ⟨rfl, .inr ?_, HB9.out.setCell (p := ⟨b, 1, none⟩) hB _⟩
  exact Lib.BuilderAt.put (T := 171) (e := 5) hB HBK9.out (bs' := bs ++ [.int .u8 c]) (by simpa using HOWN9.out) (by decide)
end Go.Proofs.YtnhfaincdabdkaaGreatDoor
namespace Go.Proofs.YtnhfaincdabdkaaGreatDoor
open Go.RowKit

/-- at an operation whose value is known -/
theorem wl_ex {P : Program} {ops : Array Oper} {rest : List Oper} {o : Oper} {a : Act} {w : World} {Q : Exit → Act → World → Prop} (hgd : o.guard = none) (v : Value) (hr : (execOp a.eval o).run P w = .ok (.value v) w)
    (h : wpList P ops Q rest (a.put o.dst v) w) : wpList P ops Q (o :: rest) a w := by
  refine wpList_plain hgd fun K hK => ?_
  unfold Oper.wp
  rw [hr]
  exact hK _ _ h
theorem bvals_snoc (l : V.Bs) (c : UInt8) : bvals l ++ [Value.int .u8 c.toNat] = bvals (l ++ [c]) := by simp [bvals]
theorem bvals_cells (l : V.Bs) : bvals l = Lib.byteCells l := rfl

set_option maxRecDepth 100000 in
set_option maxHeartbeats 3200000 in
theorem digHex_any (g : Nat) (d : V.Bs) (w : World) (hd : d.length ≤ 1000) (hr : ∀ j (h : j < d.length), w.cell? ⟨g, j, none⟩ = some (.int .u8 (d[j]).toNat)) (hg : g < w.heap.size) :
    Calls Tryz.prog 104 #[.slice (some ⟨g, 0, none⟩) d.length d.length] w fun e w' => e = .returned (.string ⟨(V.hexB d).toArray⟩) ∧ Below w.heap.size w w' := by
  have HR := Lib.hid hr
  clear hr
  have hb1 : Below w.heap.size w (w.alloc (.cells #[.pointer none, .slice none 0 0] 171)) := (Below.refl _ w).alloc (Nat.le_refl _) _
  have HI : Hid (Lib.IsBuilder 171 5 w.heap.size w.heap.size (bvals (V.hexB (d.take 0))) (w.alloc (.cells #[.pointer none, .slice none 0 0] 171)) ∧ Below w.heap.size w (w.alloc (.cells #[.pointer none, .slice none 0 0] 171))) := Lib.hid ⟨Lib.fresh_isBuilder _ _ w, hb1⟩
  clear hb1
  go_enter Tryz.func104, Tryz.ntmps104
  go_wp2
  go_loopw [8] (fun iv wx => ∃ k : Nat, k ≤ d.length ∧ iv = .int .i64 k ∧ Lib.IsBuilder 171 5 w.heap.size w.heap.size (bvals (V.hexB (d.take k))) wx ∧ Below w.heap.size w wx) (fun iv _ => d.length - (intOf iv).toNat)
  case atStart => exact ⟨0, Nat.zero_le _, rfl, HI.out⟩
  case round =>
    obtain ⟨k, hk, rfl, hbi, hbe⟩ := hrel
    have HBI := Lib.hid hbi
    have HBE := Lib.hid hbe
    clear hbi hbe HI
    by_cases hlt : k < d.length
    · have hc := (HBE.out.cell (p := ⟨g, k, none⟩) hg).trans (HR.out k hlt)
      have HT := Lib.hid (V.hexB_step hlt)
      have hle := V.hexB_to d k
      have hi1 : (0 : Int) ≤ (k : Int) := by omega
      have hi2 : (k : Int) < (d.length : Int) := by omega
      generalize d[k] = c at *
      obtain ⟨L, hL⟩ : ∃ L, L = V.hexB (d.take k) := ⟨_, rfl⟩
      rw [← hL] at HT hle HBI
      clear hL
      have hc256 := c.toNat_lt
      have HD1 : Hid ((ByteArray.mk #[48, 49, 50, 51, 52, 53, 54, 55, 56, 57, 97, 98, 99, 100, 101, 102]).data.toList[(((c.toNat / 16 : Nat) : Int)).toNat]? = some (V.digL.getD (c.toNat / 16) 0)) := Lib.hid (by rw [Int.toNat_natCast]; exact digL_at (by omega))
      have HD2 : Hid ((ByteArray.mk #[48, 49, 50, 51, 52, 53, 54, 55, 56, 57, 97, 98, 99, 100, 101, 102]).data.toList[(((c.toNat % 16 : Nat) : Int)).toNat]? = some (V.digL.getD (c.toNat % 16) 0)) := Lib.hid (by rw [Int.toNat_natCast]; exact digL_at (by omega))
      go_wp2_with (first | (refine wl_ex rfl (.int .u8 ((c.toNat / 16 : Nat) : Int)) (ex_shr4 rfl rfl rfl) ?_) | (refine wl_ex rfl (.int .u8 (V.digL.getD (c.toNat / 16) 0).toNat) (ex_index rfl rfl rfl (by omega) HD1.out) ?_) | fail)
      refine (writeByte_any w.heap.size w.heap.size _ _ wr HBI.out (by rw [bvals_len]; omega) HBE.out.size).mono ?_
      rintro e w1 ⟨rfl, h1, hb1⟩
      have HB1 := Lib.hid h1
      have HE1 := Lib.hid (HBE.out.trans hb1)
      clear h1 hb1 HBI HBE hc
      go_wp2_with (first | (refine wl_ex rfl (.int .u8 ((c.toNat % 16 : Nat) : Int)) (ex_and15 rfl rfl rfl) ?_) | (refine wl_ex rfl (.int .u8 (V.digL.getD (c.toNat % 16) 0).toNat) (ex_index rfl rfl rfl (by omega) HD2.out) ?_) | fail)
      refine (writeByte_any w.heap.size w.heap.size _ _ w1 HB1.out (by rw [bvals_snoc, bvals_len, List.length_append, List.length_singleton]; omega) HE1.out.size).mono ?_
      rintro e w2 ⟨rfl, h2, hb2⟩
      have HB2 := Lib.hid h2
      have HE2 := Lib.hid (HE1.out.trans hb2)
      clear h2 hb2 HB1 HE1
      go_wp2
      go_roundw
      case rel => exact ⟨k + 1, by omega, by go_num, by
        have := HB2.out
        rw [bvals_snoc, bvals_snoc, List.append_assoc] at this
        rw [HT.out]
        exact this, HE2.out⟩
      case measure => simp [intOf]; omega
    · obtain rfl : k = d.length := by omega
      rw [List.take_length] at HBI
      go_wp2_with fail
      refine (Tryz.Builder_String_any w.heap.size w.heap.size (V.hexB d) wr (by rw [← bvals_cells]; exact HBI.out) HBE.out.size).mono ?_
      rintro e w1 ⟨rfl, hb1⟩
      have HE1 := Lib.hid (HBE.out.trans hb1)
      clear hb1
      go_wp2
      go_ret
      exact ⟨rfl, HE1.out⟩

set_option maxRecDepth 100000 in
set_option maxHeartbeats 3200000 in
theorem digFormat_any (d : V.Bs) (w : World) (hd : d.length = 32) :
    Calls Tryz.prog 57 #[.agg (bvals d).toArray] w fun e w' => e = .returned (.string ⟨(V.fmtB d).toArray⟩) ∧ Below w.heap.size w w' := by
  have hb1 : Below w.heap.size w (w.alloc (.cells (bvals d).toArray 24)) := (Below.refl _ w).alloc (Nat.le_refl _) _
  have HB1 := Lib.hid hb1
  have HC : Hid (∀ j (h : j < d.length), (w.alloc (.cells (bvals d).toArray 24)).cell? ⟨w.heap.size, j, none⟩ = some (.int .u8 (d[j]).toNat)) := Lib.hid (fun j h => by
    rw [World.cell?_alloc_new]
    simp [bvals, h])
  clear hb1
  have HZ : Hid (w.heap.size < (w.alloc (.cells (bvals d).toArray 24)).heap.size) := Lib.hid (by simp)
  have hl := V.hexB_len d
  have hsz := sz_arr (V.hexB d)
  have hsum : ¬ 9223372036854775807 < (7 : Int) + ((V.hexB d).length : Int) := by omega
  go_enter Tryz.func57, Tryz.ntmps57
  go_wp2_with fail
  have H := digHex_any w.heap.size d _ (by omega) HC.out HZ.out
  rw [hd] at H
  refine H.mono ?_
  clear H
  rintro e w1 ⟨rfl, hb2⟩
  have HB2 := Lib.hid (HB1.out.trans (hb2.mono (Nat.le_of_lt HZ.out)))
  clear hb2 HB1 HC
  go_wp2
  go_ret
  exact ⟨congrArg (fun x => Ending.returned (.string x)) (bs_ext (by simp [V.fmtB, ByteArray.data_append])), HB2.out⟩
end Go.Proofs.YtnhfaincdabdkaaGreatDoor
namespace Go.Proofs.YtnhfaincdabdkaaGreatDoor
open Go.RowKit

/-- two bytes laid for an append, as a step of a region that draws -/
theorem step_build2B {ops : Array Oper} {o : Oper} {a : Act} {w : World} {K : Act → World → Prop} {Q : Exit → Act → World → Prop} {E : Prop} (hgd : o.guard = none) (e1 e2 : Operand) (ho : o.op = .buildSlice 22 2 #[(0, e1), (1, e2)])
    (b1 b2 : UInt8) (h1 : a.eval e1 = .int .u8 b1.toNat) (h2 : a.eval e2 = .int .u8 b2.toNat)
    (h : K (a.put o.dst (.slice (some ⟨w.heap.size, 0, none⟩) 2 2)) (w.alloc (.cells (bvals [b1, b2]).toArray 5))) : if Region.wanted o (yielded ops a.tmps) = true then Oper.wp Tryz.prog o a w K Q else E := by
  rw [if_pos (by simp [Region.wanted, hgd])]
  obtain ⟨i, hi, hz, hs, hb⟩ := info_byte
  refine wp_buildSlice _ 5 2 _ ho (bvals [b1, b2]).toArray i _ Tryz.underlying22 hi hz (by rw [hs]; decide) (by rw [hs]; decide) ?_ h
  have := Great.fill_whole (s := 1) (by decide) [Value.int .u8 b1.toNat, Value.int .u8 b2.toNat] ((Array.range (2 * i.size)).map ((Value.int .u8 0).cells[· % (Value.int .u8 0).cells.size]!)) (fun v hv => by
    rcases List.mem_cons.1 hv with rfl | hv
    · rfl
    · rw [List.mem_singleton.1 hv]; rfl) (by rw [hs]; simp)
  rw [hs] at this ⊢
  simp only [h1, h2, List.map_toArray, List.map_cons, List.map_nil]
  exact this.trans (by simp [Value.cells, bvals])

/-- the bytes of a buffer that is not empty -/
theorem Buf.at {N : Nat} {v : Value} {l : V.Bs} {W0 w : World} (h : Buf N v l W0 w) (h0 : 0 < l.length) : ∃ g cap, v = .slice (some ⟨g, 0, none⟩) l.length cap ∧ N ≤ g ∧ g < w.heap.size ∧ ∀ j (hj : j < l.length), w.cell? ⟨g, j, none⟩ = some (.int .u8 (l[j]).toNat) := by
  rcases h.1.2 with ⟨_, hn⟩ | ⟨g, cap, cur, fz, hv, hb, hg, hnc, hm, hsz, hq, htk⟩
  · omega
  · refine ⟨g, cap, hv, hb, (Array.getElem?_eq_some_iff.1 hg).1, fun j hj => ?_⟩
    have hc : w.cell? ⟨g, j, none⟩ = cur[j]? := by
      unfold World.cell?
      rw [hg]
      rfl
    have h1 : (bvals l)[j]? = some (.int .u8 (l[j]).toNat) := by simp [bvals, hj]
    rw [← htk, List.getElem?_take] at h1
    split at h1
    · rw [hc]; simpa using h1
    · cases h1

end Go.Proofs.YtnhfaincdabdkaaGreatDoor
namespace Go.Proofs.YtnhfaincdabdkaaGreatDoor
open Go.RowKit

theorem grow_below (w : World) (k : Nat) (os : Array Obj) : Below w.heap.size w (Sort.grow (w.drewN k) os) :=
  ⟨rfl, rfl, rfl, by simp, fun q hq => by rw [Sort.heap_grow_old _ _ (by simpa using hq)]; rfl⟩
theorem nDigits_le : ∀ (k u : Nat), u < 10 ^ k → 0 < k → Lib.nDigits u ≤ k
  | 0, _, _, h => absurd h (by omega)
  | 1, u, h, _ => by rw [Lib.nDigits_small (by simpa using h)]; exact Nat.le_refl _
  | k + 2, u, h, _ => by
    rw [Lib.nDigits]
    split
    · omega
    · have := nDigits_le (k + 1) (u / 10) (by rw [Nat.pow_succ] at h; omega) (by omega)
      omega
/-- a number within the limits of documents -/
theorem dec_len {n : Nat} (h : n ≤ 2199023255552) : (Lib.decDigits n).length ≤ 13 := by
  rw [Lib.decDigits_length]
  exact nDigits_le 13 n (by omega) (by omega)
/-- the digits of a number above those that are written -/
def decHead (q : Nat) : V.Bs := if q = 0 then [] else Lib.decDigits q
theorem decHead_step {q : Nat} (h : 0 < q) : decHead q = decHead (q / 10) ++ [UInt8.ofNat (48 + q % 10)] := by
  unfold decHead
  rw [if_neg (by omega), Lib.decDigits]
  split
  · rename_i h10
    rw [if_pos (by omega), Nat.mod_eq_of_lt h10]
    rfl
  · rw [if_neg (by omega)]

theorem docNumber_any (n : Nat) (w : World) (hn : n ≤ 2199023255552) (htab : Lib.TabIs Tryz.prog w "internal/strconv.uint64pow10" .u64 Lib.pow10Tab) :
    Calls Tryz.prog 58 #[.int .i64 n] w fun e w' => e = .returned (.string ⟨(Lib.decDigits n).toArray⟩) ∧ Below w.heap.size w w' := by
  have HT := Lib.hid htab
  clear htab
  go_enter Tryz.func58, Tryz.ntmps58
  go_wp2_with fail
  refine (Tryz.strconv_FormatInt_10 n (by omega) (by omega) w HT.out).mono ?_
  rintro e w' ⟨rfl, k, os, rfl⟩
  have HI : Hid (Lib.itoa n = Lib.decDigits n) := Lib.hid (by unfold Lib.itoa; rw [if_neg (by omega)]; simp)
  rw [HI.out]
  have HB := Lib.hid (grow_below w k os)
  generalize Sort.grow (w.drewN k) os = w1 at *
  go_wp2
  go_ret
  exact ⟨rfl, HB.out⟩

theorem conv_byte (W : World) (n : Int) : (convert 22 9 (.slice (some ⟨W.heap.size, 0, none⟩) 1 1)).run Tryz.prog (W.alloc (.cells #[.int .u8 n] 5)) =
    .ok (.string ⟨#[UInt8.ofNat n.toNat]⟩) (W.alloc (.cells #[.int .u8 n] 5)) := by
  have h := run_convert_bytes_arg (P := Tryz.prog) (W.alloc (.cells #[.int .u8 n] 5)) 22 5 Tryz.underlying22 Tryz.underlying5 W.heap.size 0 1 1 [n] rfl (fun i hi => by
    obtain rfl : i = 0 := by omega
    rw [World.cell?_alloc_new]; rfl) 9 Tryz.underlying9
  exact h

set_option maxRecDepth 100000 in
theorem rdocNumber_any (n : Nat) (w : World) (hn : n ≤ 2199023255552) :
    Calls Tryz.prog 66 #[.int .i64 n] w fun e w' => e = .returned (.string ⟨(Lib.decDigits n).toArray⟩) ∧ Below w.heap.size w w' := by
  by_cases h0 : n = 0
  · subst h0
    have HD : Hid (Lib.decDigits 0 = [48]) := Lib.hid (by rw [Lib.decDigits_one (by omega)]; rfl)
    rw [HD.out]
    go_enter Tryz.func66, Tryz.ntmps66
    go_wp2
    go_ret
    exact ⟨rfl, Below.refl _ _⟩
  · have HD : Hid (Lib.decDigits n = decHead n) := Lib.hid (by unfold decHead; rw [if_neg h0])
    have HL : Hid ((Lib.decDigits n).length ≤ 13) := Lib.hid (dec_len hn)
    have hb0 : ((n : Int) == 0) = false := by rw [beq_eq_false_iff_ne]; omega
    have hw : IntKind.u64.wrap (n : Int) = (n : Int) := by unfold IntKind.wrap; simp [IntKind.signed, IntKind.bits]; omega
    have hl0 : ¬ (n : Int) < 0 := by omega
    go_enter Tryz.func66, Tryz.ntmps66
    go_wp2
    go_loopw [4, 5] (fun uv sv wx => ∃ (q : Nat) (S : V.Bs), q ≤ n ∧ uv = .int .u64 q ∧ sv = .string ⟨S.toArray⟩ ∧ Lib.decDigits n = decHead q ++ S ∧ Below w.heap.size w wx) (fun uv _ _ => (intOf uv).toNat)
    case atStart => exact ⟨n, [], Nat.le_refl _, rfl, rfl, by rw [List.append_nil]; exact HD.out, Below.refl _ _⟩
    case round =>
      obtain ⟨q, S, hq, rfl, rfl, heq, hb⟩ := hrel
      have HE := Lib.hid heq
      have HB := Lib.hid hb
      have hsl : S.length ≤ 13 := by
        have := HL.out
        rw [heq, List.length_append] at this
        omega
      clear heq hb
      by_cases hq0 : q = 0
      · subst hq0
        have HF : Hid (Lib.decDigits n = S) := Lib.hid (by rw [HE.out]; rfl)
        go_wp2
        go_ret
        exact ⟨congrArg (fun x => Ending.returned (.string x)) (bs_ext (by rw [HF.out]; simp [ByteArray.data_append])), HB.out⟩
      · have hq1 : (0 : Int) < (q : Int) := by omega
        have hrem : (q : Int).tmod 10 = ((q % 10 : Nat) : Int) := by rw [Int.tmod_eq_emod_of_nonneg (by omega)]; rfl
        have hquo : (q : Int).tdiv 10 = ((q / 10 : Nat) : Int) := by rw [Int.tdiv_eq_ediv_of_nonneg (by omega)]; rfl
        have hr10 : q % 10 < 10 := Nat.mod_lt _ (by omega)
        have HST : Hid (decHead q = decHead (q / 10) ++ [UInt8.ofNat (48 + q % 10)]) := Lib.hid (decHead_step (by omega))
        have hdle : q / 10 ≤ n := by omega
        have hdlt : q / 10 < q := by omega
        obtain ⟨r, hr⟩ : ∃ r, r = q % 10 := ⟨_, rfl⟩
        obtain ⟨p, hp⟩ : ∃ p, p = q / 10 := ⟨_, rfl⟩
        rw [← hr] at hrem HST hr10
        rw [← hp] at hquo HST hdle hdlt
        clear hr hp
        have hadd : IntKind.u64.wrap (48 + (r : Int)) = 48 + (r : Int) := by unfold IntKind.wrap; simp [IntKind.signed, IntKind.bits]; omega
        have hcv : IntKind.u8.wrap (48 + (r : Int)) = 48 + (r : Int) := by unfold IntKind.wrap; simp [IntKind.signed, IntKind.bits]; omega
        have hwr : IntKind.u64.wrap (r : Int) = (r : Int) := by unfold IntKind.wrap; simp [IntKind.signed, IntKind.bits]; omega
        have hwp : IntKind.u64.wrap (p : Int) = (p : Int) := by unfold IntKind.wrap; simp [IntKind.signed, IntKind.bits]; omega
        have hconv := conv_byte wr (48 + (r : Int))
        go_wp2
        go_roundw
        case rel => exact ⟨p, UInt8.ofNat (48 + r) :: S, hdle, rfl, congrArg Value.string (bs_ext (by simp [ByteArray.data_append, UInt8.ofNat_add])), by rw [HE.out, HST.out]; simp, HB.out.trans (((Below.refl _ wr).alloc (Nat.le_refl _) _).mono HB.out.size)⟩
        case measure => simp [intOf]; omega
end Go.Proofs.YtnhfaincdabdkaaGreatDoor
