/-
  Walk: the reference's Encode of documents.
  Laws at the operations of both Encodes of inventories.
  Laws for reading components from lines.
-/
import Derived.Test.YtnhfaincdabdkaaGreatDoorMR
import Derived.Test.YtnhfaincdabdkaaGreatDoorPJ
import Derived.Test.YtnhfaincdabdkaaGreatDoorID
import Derived.Test.YtnhfaincdabdkaaGreatDoorZE
import Derived.Test.YtnhfaincdabdkaaGreatDoorJH
import Derived.Deep.RegionHeld3
namespace Go.Proofs.YtnhfaincdabdkaaGreatDoor
open Go.RowKit

set_option maxRecDepth 100000 in
set_option maxHeartbeats 3200000 in
theorem rdocEncode_any (v : Value) (ls : List (List V.Bs)) (w : World) (hv : Lines w v ls) (hd : V.DocOk ls) :
    Calls Tryz.prog 35 #[v] w fun e w' => ∃ u, e = .returned (.tuple #[u, .int .i64 0]) ∧ Buf w.heap.size u (V.doc ls) w w' := by
  obtain ⟨va, vc, rfl, hat⟩ := hv
  have HA := Lib.hid hat
  have HD := Lib.hid hd
  have hn := hd.lines
  have hmax := hd.size
  have hn1 : ¬ (1000 : Int) < (ls.length : Int) := by omega
  have HLEN : Hid (∀ k, k ≤ ls.length → (V.docTo ls k).length = V.docSz ls k) := Lib.hid (V.docTo_len (fun l hl => (hd.line l hl).1))
  clear hat hd
  go_enter Tryz.func35, Tryz.ntmps35
  go_wp2
  go_loopw [4, 5] (fun ov iv wx => ∃ k : Nat, k ≤ ls.length ∧ iv = .int .i64 k ∧ Buf w.heap.size ov (V.docTo ls k) w wx) (fun _ iv _ => ls.length - (intOf iv).toNat)
  case atStart => exact ⟨0, Nat.zero_le _, rfl, Buf.nil (Below.refl _ _) (Nat.le_refl _)⟩
  case round =>
    obtain ⟨k, hk, rfl, hbuf⟩ := hrel
    have HB := Lib.hid hbuf
    obtain ⟨oa, oc, rfl⟩ := hbuf.slice
    clear hbuf
    by_cases hlt : k < ls.length
    · have HST := Lib.hid (V.docTo_step hlt)
      have hlen1 : (V.docTo ls k).length + (V.line ls[k]).length ≤ 262144 := by
        have h1 := HLEN.out (k + 1) (by omega)
        have h2 := V.docSz_le (ls := ls) (j := k + 1) (by omega) (Nat.le_refl ls.length)
        rw [HST.out, List.length_append] at h1
        omega
      obtain ⟨b, off, u, rfl, hb0, hc0, hs⟩ := HA.out k hlt
      have hc := (HB.out.2.1.cell (p := ⟨b, off + k, none⟩) hb0).trans hc0
      have HC0 := Lib.hid (And.intro hb0 hc0)
      have HS := Lib.hid hs
      obtain ⟨ua, uc, rfl, _⟩ := hs
      clear hb0 hc0
      have HX := Lib.hid (HD.out.line _ (List.getElem_mem hlt))
      have hx0 := HX.out.1
      have hx1 := HX.out.2.1
      have hi1 : (0 : Int) ≤ (k : Int) := by omega
      have hi2 : (k : Int) < (ls.length : Int) := by omega
      have HLN : Hid (V.line ls[k] = V.lineTo ls[k] ls[k].length ++ [10]) := Lib.hid rfl
      have hll : (V.line ls[k]).length = (V.lineTo ls[k] ls[k].length).length + 1 := by unfold V.line; simp
      obtain ⟨A, hA⟩ : ∃ A, A = V.docTo ls k := ⟨_, rfl⟩
      rw [← hA] at HST hlen1 HB ⊢
      generalize ls[k] = l at *
      have hq0 : ((l.length : Int) == 0) = false := by rw [beq_eq_false_iff_ne]; omega
      have hq1 : ¬ (120 : Int) < (l.length : Int) := by omega
      clear hA
      go_wp2
      clear hc hq0 hq1
      go_loopw [4, 6] (fun ov iv wx => ∃ j : Nat, j ≤ l.length ∧ iv = .int .i64 j ∧ Buf w.heap.size ov (A ++ V.lineTo l j) w wx) (fun _ iv _ => l.length - (intOf iv).toNat)
      case atStart => exact ⟨0, Nat.zero_le _, rfl, by rw [show V.lineTo l 0 = [] from rfl, List.append_nil]; exact HB.out⟩
      case round =>
        obtain ⟨j, hj, rfl, hbuf⟩ := hrel
        have HB2 := Lib.hid hbuf
        obtain ⟨oa2, oc2, rfl⟩ := hbuf.slice
        have hc := (HB2.out.2.1.cell (p := ⟨b, off + k, none⟩) HC0.out.1).trans HC0.out.2
        clear hbuf HB
        by_cases hjl : j < l.length
        · obtain ⟨ua2, uc2, e2, hat2⟩ := HS.out
          cases e2
          obtain ⟨b2, off2, rfl, hb2, hc0⟩ := hat2 j hjl
          have hc2 := (HB2.out.2.1.cell (p := ⟨b2, off2 + j, none⟩) hb2).trans hc0
          have HC2 := Lib.hid (And.intro hb2 hc0)
          have hx := HX.out.2.2 _ (List.getElem_mem hjl)
          have hj1 : (0 : Int) ≤ (j : Int) := by omega
          have hj2 : (j : Int) < (l.length : Int) := by omega
          have HT2 := Lib.hid (V.lineTo_step l j)
          have hg : l.getD j [] = l[j] := by rw [List.getD_eq_getElem?_getD, List.getElem?_eq_getElem hjl]; rfl
          rw [hg] at HT2
          have hlen2 : A.length + (V.lineTo l j).length ≤ 270000 := by
            have h1 := (V.lineTo_len (l := l) j hj).1
            have h2 := V.lineSz_le (l := l) hj (Nat.le_refl l.length)
            have h3 := V.line_len (l := l) HX.out.1
            omega
          obtain ⟨M, hM⟩ : ∃ M, M = A ++ V.lineTo l j := ⟨_, rfl⟩
          have HM := Lib.hid hM
          have hml : M.length ≤ 270000 := by rw [hM, List.length_append]; exact hlen2
          rw [← hM] at HB2 ⊢
          generalize l[j] = x at *
          have hxs := sz_arr x
          have hx2 : ¬ (32768 : Int) < (x.length : Int) := by omega
          have hx3 : ¬ (32768 : Int) < ((ByteArray.mk x.toArray).size : Int) := by rw [hxs]; omega
          clear hat2 hc0 hM hg hlen2 hb2
          by_cases hj0 : j = 0
          · subst hj0
            rw [Nat.add_zero] at hc2
            go_wp2_with fail
            refine (rdocWord_bs x wr (by omega)).mono ?_
            rintro e w3 ⟨rfl, hb3⟩
            have HB3 := Lib.hid (HB2.out.below hb3)
            have hwl := V.word_len x
            have hwl2 := V.sizeW_le x
            clear hb3 HB2
            go_wp2_with (first | (refine wl_text rfl _ _ rfl w.heap.size (.slice oa2 M.length oc2) M w rfl HB3.out (V.word x) rfl (by omega) ?_; intro v9 w9 hb9) | fail)
            have HB9 := Lib.hid hb9
            clear hb9 hwl hwl2
            go_wp2
            go_roundw
            case rel => exact ⟨0 + 1, by omega, by go_num, by
              have := HB9.out
              rw [HM.out, List.append_assoc] at this
              rw [HT2.out]
              exact this⟩
            case measure => simp [intOf]; omega
          · have hjp : (0 : Int) < (j : Int) := by omega
            have hb4 : Below wr.heap.size wr (wr.alloc (.cells #[.int .u8 32] 5)) := (Below.refl _ wr).alloc (Nat.le_refl _) _
            have HB4 := Lib.hid (HB2.out.below hb4)
            have HBN := Lib.hid (bytes_new [32] wr)
            clear hb4
            go_wp2_with (first | (refine wl_bytes rfl _ _ rfl w.heap.size (.slice oa2 M.length oc2) M w rfl HB4.out wr.heap.size 1 [32] rfl HBN.out (by simp; omega) ?_; intro v5 w5 hb5; have hc5 := (hb5.2.1.cell (p := ⟨b, off + k, none⟩) HC0.out.1).trans HC0.out.2; have hc6 := (hb5.2.1.cell (p := ⟨b2, off2 + j, none⟩) HC2.out.1).trans HC2.out.2) | fail)
            replace HB2 := Lib.hid hb5
            clear hb5 HB4 HBN hc2 hc
            refine (rdocWord_bs x w5 (by omega)).mono ?_
            rintro e w3 ⟨rfl, hb3⟩
            have HB3 := Lib.hid (HB2.out.below hb3)
            have hwl := V.word_len x
            have hwl2 := V.sizeW_le x
            clear hb3 HB2
            go_wp2_with (first | (refine wl_text rfl _ _ rfl w.heap.size v5 (M ++ [32]) w rfl HB3.out (V.word x) rfl (by simp; omega) ?_; intro v9 w9 hb9) | fail)
            have HB9 := Lib.hid hb9
            clear hb9 hwl hwl2
            go_wp2
            go_roundw
            case rel => exact ⟨j + 1, by omega, by go_num, by
              have := HB9.out
              rw [HM.out, List.append_assoc, List.append_assoc] at this
              rw [HT2.out, if_neg hj0]
              exact this⟩
            case measure => simp [intOf]; omega
        · obtain rfl : j = l.length := by omega
          have hlen3 : (A ++ V.lineTo l l.length).length ≤ 270000 := by rw [List.length_append]; omega
          have hA10 : A ++ V.line l = (A ++ V.lineTo l l.length) ++ [10] := by rw [HLN.out, List.append_assoc]
          rw [hA10] at HST
          obtain ⟨M, hM⟩ : ∃ M, M = A ++ V.lineTo l l.length := ⟨_, rfl⟩
          rw [← hM] at HB2 HST hlen3 ⊢
          have hb4 : Below wr.heap.size wr (wr.alloc (.cells #[.int .u8 10] 5)) := (Below.refl _ wr).alloc (Nat.le_refl _) _
          have HB4 := Lib.hid (HB2.out.below hb4)
          have HBN := Lib.hid (bytes_new [10] wr)
          clear hb4 hA10 hM HB2
          go_wp2_with (first | (refine wl_bytes rfl _ _ rfl w.heap.size (.slice oa2 M.length oc2) M w rfl HB4.out wr.heap.size 1 [10] rfl HBN.out (by simp; omega) ?_; intro v5 w5 hb5) | fail)
          have HB5 := Lib.hid hb5
          clear hb5 HB4 HBN
          go_wp2
          go_roundw
          case rel => exact ⟨k + 1, by omega, by go_num, by rw [HST.out]; exact HB5.out⟩
          case measure => simp [intOf]; omega
    · obtain rfl : k = ls.length := by omega
      have hdl : (V.docTo ls ls.length).length ≤ 262144 := by rw [HLEN.out _ (Nat.le_refl _)]; exact hmax
      rw [V.docTo_all] at HB hdl ⊢
      have hbig : ¬ (262144 : Int) < ((V.doc ls).length : Int) := by omega
      go_wp2
      go_ret2
      exact ⟨_, rfl, HB.out⟩
end Go.Proofs.YtnhfaincdabdkaaGreatDoor
namespace Go.Proofs.YtnhfaincdabdkaaGreatDoor
open Go.RowKit

theorem cell_keep {W W' : World} {b o : Nat} {v : Value} (hb : Below W.heap.size W W') (h : W.cell? ⟨b, o, none⟩ = some v) : W'.cell? ⟨b, o, none⟩ = some v :=
  (hb.cell (p := ⟨b, o, none⟩) (World.block_lt_of_cell? _ _ h)).trans h
def wordsV (l : List V.Bs) : Array Value := (l.map fun x => Value.string ⟨x.toArray⟩).toArray
theorem infoS : ∃ i, Tryz.prog.info? 9 = some i ∧ i.zero = some (.string ⟨#[]⟩) ∧ i.size = 1 ∧ i.bytes = 16 := by
  have h : (Tryz.prog.info? 9).map (fun i => (i.zero, i.size, i.bytes)) = some (some (.string ⟨#[]⟩), 1, 16) := by kernel_rfl
  obtain ⟨i, hi, hzz⟩ := Option.map_eq_some_iff.1 h
  simp only [Prod.mk.injEq] at hzz
  exact ⟨i, hi, hzz.1, hzz.2.1, hzz.2.2⟩
/-- a line of three words laid, as a step of a region that draws -/
theorem step_build3L {ops : Array Oper} {o : Oper} {a : Act} {w : World} {K : Act → World → Prop} {Q : Exit → Act → World → Prop} {E : Prop} (hgd : o.guard = none) (e1 e2 e3 : Operand) (ho : o.op = .buildSlice 61 3 #[(0, e1), (1, e2), (2, e3)])
    (s1 s2 s3 : V.Bs) (h1 : a.eval e1 = .string ⟨s1.toArray⟩) (h2 : a.eval e2 = .string ⟨s2.toArray⟩) (h3 : a.eval e3 = .string ⟨s3.toArray⟩)
    (h : K (a.put o.dst (.slice (some ⟨w.heap.size, 0, none⟩) 3 3)) (w.alloc (.cells (wordsV [s1, s2, s3]) 9))) : if Region.wanted o (yielded ops a.tmps) = true then Oper.wp Tryz.prog o a w K Q else E := by
  rw [if_pos (by simp [Region.wanted, hgd])]
  obtain ⟨i, hi, hz, hs, hb⟩ := infoS
  refine wp_buildSlice _ 9 3 _ ho (wordsV [s1, s2, s3]) i _ Tryz.underlying61 hi hz (by rw [hs]; decide) (by rw [hs]; decide) ?_ h
  have := Great.fill_whole (s := 1) (by decide) [Value.string ⟨s1.toArray⟩, Value.string ⟨s2.toArray⟩, Value.string ⟨s3.toArray⟩] ((Array.range (3 * i.size)).map ((Value.string ⟨#[]⟩).cells[· % (Value.string ⟨#[]⟩).cells.size]!)) (fun v hv => by
    simp only [List.mem_cons, List.not_mem_nil, or_false] at hv
    rcases hv with rfl | rfl | rfl <;> rfl) (by rw [hs]; simp)
  rw [hs] at this ⊢
  simp only [h1, h2, h3, List.map_toArray, List.map_cons, List.map_nil]
  exact this
/-- a line of six words laid -/
theorem step_build6L {ops : Array Oper} {o : Oper} {a : Act} {w : World} {K : Act → World → Prop} {Q : Exit → Act → World → Prop} {E : Prop} (hgd : o.guard = none) (e1 e2 e3 e4 e5 e6 : Operand) (ho : o.op = .buildSlice 61 6 #[(0, e1), (1, e2), (2, e3), (3, e4), (4, e5), (5, e6)])
    (s1 s2 s3 s4 s5 s6 : V.Bs) (h1 : a.eval e1 = .string ⟨s1.toArray⟩) (h2 : a.eval e2 = .string ⟨s2.toArray⟩) (h3 : a.eval e3 = .string ⟨s3.toArray⟩) (h4 : a.eval e4 = .string ⟨s4.toArray⟩) (h5 : a.eval e5 = .string ⟨s5.toArray⟩) (h6 : a.eval e6 = .string ⟨s6.toArray⟩)
    (h : K (a.put o.dst (.slice (some ⟨w.heap.size, 0, none⟩) 6 6)) (w.alloc (.cells (wordsV [s1, s2, s3, s4, s5, s6]) 9))) : if Region.wanted o (yielded ops a.tmps) = true then Oper.wp Tryz.prog o a w K Q else E := by
  rw [if_pos (by simp [Region.wanted, hgd])]
  obtain ⟨i, hi, hz, hs, hb⟩ := infoS
  refine wp_buildSlice _ 9 6 _ ho (wordsV [s1, s2, s3, s4, s5, s6]) i _ Tryz.underlying61 hi hz (by rw [hs]; decide) (by rw [hs]; decide) ?_ h
  have := Great.fill_whole (s := 1) (by decide) [Value.string ⟨s1.toArray⟩, Value.string ⟨s2.toArray⟩, Value.string ⟨s3.toArray⟩, Value.string ⟨s4.toArray⟩, Value.string ⟨s5.toArray⟩, Value.string ⟨s6.toArray⟩] ((Array.range (6 * i.size)).map ((Value.string ⟨#[]⟩).cells[· % (Value.string ⟨#[]⟩).cells.size]!)) (fun v hv => by
    simp only [List.mem_cons, List.not_mem_nil, or_false] at hv
    rcases hv with rfl | rfl | rfl | rfl | rfl | rfl <;> rfl) (by rw [hs]; simp)
  rw [hs] at this ⊢
  simp only [h1, h2, h3, h4, h5, h6, List.map_toArray, List.map_cons, List.map_nil]
  exact this
/-- one line laid for an append -/
theorem step_build1L {ops : Array Oper} {o : Oper} {a : Act} {w : World} {K : Act → World → Prop} {Q : Exit → Act → World → Prop} {E : Prop} (hgd : o.guard = none) (e1 : Operand) (ho : o.op = .buildSlice 64 1 #[(0, e1)])
    (u : Lsl) (h1 : a.eval e1 = u.v)
    (h : K (a.put o.dst (.slice (some ⟨w.heap.size, 0, none⟩) 1 1)) (w.alloc (.cells #[u.v] 61))) : if Region.wanted o (yielded ops a.tmps) = true then Oper.wp Tryz.prog o a w K Q else E := by
  rw [if_pos (by simp [Region.wanted, hgd])]
  obtain ⟨ie, z, hie, hz, q1, q2, q3⟩ := lineInfo
  refine wp_buildSlice _ 61 1 _ ho #[u.v] ie z Tryz.underlying64 hie hz (by rw [q1]; decide) (by rw [q1]; decide) ?_ h
  have := Great.fill_whole (s := 1) (by decide) [u.v] ((Array.range (1 * ie.size)).map (z.cells[· % z.cells.size]!)) (fun v hv => by
    rw [List.mem_singleton.1 hv]; rfl) (by rw [q1]; simp)
  rw [q1] at this ⊢
  simp only [h1, List.map_toArray, List.map_cons, List.map_nil]
  exact this
theorem cell_line (w : World) (u : Lsl) : ∀ j v, (lslE u)[j]? = some v → (w.alloc (.cells #[u.v] 61)).cell? ⟨w.heap.size, j, none⟩ = some v := fun j v h => by
  rw [World.cell?_alloc_new]
  simpa [lslE] using h
/-- the digest of a component -/
theorem range_dig4 {c : V.Comp} {w : World} {b o : Nat} (h : w.rangeAt b o (cellsL c)) : w.rangeAt b (o + 4) (dcellsL c.dig) := fun j v hv => by
  have := h (j + 4) v (by unfold cellsL; simpa [dcellsL] using hv)
  rwa [show o + 4 + j = o + (j + 4) by omega]
theorem digFormat_d {d : List Int} (hd : d.length = 32) (hw : ∀ n ∈ d, (Lit.int .u8 n).wf = true) (w : World) :
    Calls Tryz.prog 57 #[.agg (dcells d)] w fun e w' => e = .returned (.string ⟨(V.fmtB (V.bytesD d)).toArray⟩) ∧ Below w.heap.size w w' := by
  have := digFormat_any (V.bytesD d) w (by rw [V.bytesD_len, hd])
  rwa [bytesD_vals hw] at this
theorem docNumber_i {n : Int} (h0 : 0 ≤ n) (h1 : n ≤ 2199023255552) (w : World) (hp : PowOk w) :
    Calls Tryz.prog 58 #[.int .i64 n] w fun e w' => e = .returned (.string ⟨(Lib.decDigits n.toNat).toArray⟩) ∧ Below w.heap.size w w' := by
  have := docNumber_any n.toNat w (by omega) hp
  rwa [Int.toNat_of_nonneg h0] at this
theorem rdocNumber_i {n : Int} (h0 : 0 ≤ n) (h1 : n ≤ 2199023255552) (w : World) :
    Calls Tryz.prog 66 #[.int .i64 n] w fun e w' => e = .returned (.string ⟨(Lib.decDigits n.toNat).toArray⟩) ∧ Below w.heap.size w w' := by
  have := rdocNumber_any n.toNat w (by omega)
  rwa [Int.toNat_of_nonneg h0] at this
/-- what an Encode of an inventory returns -/
def EncR (d : List Int) (t : Int) (l : List V.Comp) (w : World) (e : Ending) (w' : World) : Prop :=
  (V.invOk d t l = true → ∃ u N W0, e = .returned (.tuple #[u, .int .i64 0]) ∧ Buf N u (V.doc (V.invLines d t l l.length)) W0 w') ∧
  (V.invOk d t l = false → e = .returned (.tuple #[.slice none 0 0, .int .i64 1])) ∧ Below w.heap.size w w'
/-- what is kept in the loop over the components -/
structure EncS (N : Nat) (W0 : World) (v : Value) (ls : List (List V.Bs)) (w : World) : Prop where
  row : ∃ us, LRow N w v us ls
  below : Below N W0 w
  size : N ≤ w.heap.size
theorem compOk_sch {c : V.Comp} (h : V.compOk c = true) : c.sch = 1 ∨ c.sch = 2 ∨ c.sch = 3 := by
  unfold V.compOk V.valid V.schOk at h
  by_cases h1 : c.sch = 1
  · exact .inl h1
  · by_cases h2 : c.sch = 2
    · exact .inr (.inl h2)
    · by_cases h3 : c.sch = 3
      · exact .inr (.inr h3)
      · simp [h1, h2, h3] at h
end Go.Proofs.YtnhfaincdabdkaaGreatDoor
namespace Go.Proofs.YtnhfaincdabdkaaGreatDoor
open Go.RowKit

/-- a component stored into a block, as a step of a region that draws -/
theorem step_storeAt {ops : Array Oper} {o : Oper} {a : Act} {w : World} {K : Act → World → Prop} {Q : Exit → Act → World → Prop} {E : Prop} (hgd : o.guard = none) (x y : Operand) (ho : o.op = .store 88 x y)
    (g : Nat) (old : Array Value) (t : TypeId) (hg : w.heap[g]? = some (.cells old t (0, 0))) (hx : a.eval x = .pointer (some ⟨g, 0, none⟩)) (c : V.Comp) (hc : CompWf c) (hy : a.eval y = .agg (ccells c)) (ho36 : old.size = 36)
    (h : K (a.put o.dst undef) (w.setRow g (ccells c))) :
    if Region.wanted o (yielded ops a.tmps) = true then Oper.wp Tryz.prog o a w K Q else E := by
  rw [if_pos (by simp [Region.wanted, hgd])]
  exact wp_store_row _ x y ho g (ccells c) hx hy t old hg (by rw [compInfo, hc.size]) (by rw [ho36, hc.size]) comp_one h
set_option maxRecDepth 100000 in
theorem built_comp' (f : Nat → Int) (p n : Int) (s t : V.Bs) : Tryz.prog.built 88 [(0, .int .i64 p), (1, .int .i64 n), (2, .string ⟨s.toArray⟩), (3, .string ⟨t.toArray⟩), (4, .agg (dcells ((List.range 32).map f)))] = some (ccells ⟨p, n, s, t, (List.range 32).map f⟩) := by kernel_rfl
theorem built_comp {d : List Int} (hd : d.length = 32) (p n : Int) (s t : V.Bs) : Tryz.prog.built 88 [(0, .int .i64 p), (1, .int .i64 n), (2, .string ⟨s.toArray⟩), (3, .string ⟨t.toArray⟩), (4, .agg (dcells d))] = some (ccells ⟨p, n, s, t, d⟩) := by
  rw [range32 hd]; exact built_comp' _ _ _ _ _
set_option maxRecDepth 100000 in
theorem built_comp0 (p n : Int) (s t : V.Bs) : Tryz.prog.built 88 [(0, .int .i64 p), (1, .int .i64 n), (2, .string ⟨s.toArray⟩), (3, .string ⟨t.toArray⟩)] = some (ccells ⟨p, n, s, t, V.zeroDig⟩) := by kernel_rfl
theorem ex_neqI {o : Oper} {ev : Operand → Value} {w : World} {x y : Operand} {c d : List Int} (ho : o.op = .binOp .neq 24 x y 24) (hx : ev x = .agg (dcells c)) (hy : ev y = .agg (dcells d)) (hc : c.length = 32) (wc : ∀ n ∈ c, (Lit.int .u8 n).wf = true) (hd : d.length = 32) (wd : ∀ n ∈ d, (Lit.int .u8 n).wf = true) : (execOp ev o).run Tryz.prog w = .ok (.value (.bool (!decide (c = d)))) w := by
  unfold execOp
  simp only [ho, hx, hy, Sem.run_bind, run_eqGuard_agg w .neq 24 x y _ _ guard_dig, Result.andThen_ok, run_neq_struct, eq_dig hc wc hd wd, Sem.run_pure]
/-- a digest loaded under a guard -/
theorem wl_loadG {ops : Array Oper} {rest : List Oper} {o : Oper} {a : Act} {w : World} {Q : Exit → Act → World → Prop} (hw : Region.wanted o (yielded ops a.tmps) = true) (x : Operand) (ho : o.op = .load 24 x)
    (b off : Nat) (hx : a.eval x = .pointer (some ⟨b, off, none⟩)) {d : List Int} (hd : d.length = 32) (hr : w.rangeAt b off (dcellsL d))
    (h : wpList Tryz.prog ops Q rest (a.put o.dst (.agg (dcells d))) w) : wpList Tryz.prog ops Q (o :: rest) a w := by
  refine wpList_step fun K hK => ?_
  rw [if_pos hw]
  unfold Oper.wp
  rw [ex_load ho hx (load_dig hd hr)]
  exact hK _ _ h
/-- two digests compared under a guard -/
theorem wl_neqG {ops : Array Oper} {rest : List Oper} {o : Oper} {a : Act} {w : World} {Q : Exit → Act → World → Prop} (hw : Region.wanted o (yielded ops a.tmps) = true) (x y : Operand) (ho : o.op = .binOp .neq 24 x y 24)
    {c d : List Int} (hx : a.eval x = .agg (dcells c)) (hy : a.eval y = .agg (dcells d)) (hc : c.length = 32) (wc : ∀ n ∈ c, (Lit.int .u8 n).wf = true) (hd : d.length = 32) (wd : ∀ n ∈ d, (Lit.int .u8 n).wf = true) (r : Bool) (hr : (!decide (c = d)) = r)
    (h : wpList Tryz.prog ops Q rest (a.put o.dst (.bool r)) w) : wpList Tryz.prog ops Q (o :: rest) a w := by
  subst hr
  refine wpList_step fun K hK => ?_
  rw [if_pos hw]
  unfold Oper.wp
  rw [ex_neqI ho hx hy hc wc hd wd]
  exact hK _ _ h
/-- a digest stored into a new block -/
theorem wl_storeD {ops : Array Oper} {rest : List Oper} {o : Oper} {a : Act} {w : World} {Q : Exit → Act → World → Prop} (hgd : o.guard = none) (x y : Operand) (ho : o.op = .store 24 x y)
    (old : Array Value) (t : TypeId) (hx : a.eval x = .pointer (some ⟨w.heap.size, 0, none⟩)) {d : List Int} (hd : d.length = 32) (hy : a.eval y = .agg (dcells d)) (h32 : old.size = 32)
    (h : wpList Tryz.prog ops Q rest (a.put o.dst undef) (w.alloc (.cells (dcells d) t))) : wpList Tryz.prog ops Q (o :: rest) a (w.alloc (.cells old t)) := by
  refine wpList_store_row hgd _ x y ho w.heap.size (dcells d) hx hy t old (heap_alloc_new w _) (by rw [digInfo, dcells_size hd]) (by rw [h32, dcells_size hd]) dig_one ?_
  rw [set_new]; exact h
theorem range_setRow {W : World} {b o g : Nat} {l : List Value} (h : W.rangeAt b o l) (hne : b ≠ g) (cs : Array Value) : (W.setRow g cs).rangeAt b o l := fun j v hv => (setRow_grown W g cs).cell (h j v hv) (fun e => hne (Option.some.inj e))
/-- six words in memory -/
theorem strs_at6 {w : World} {v : Value} {a p s n x g : V.Bs} (h : Strs w v [a, p, s, n, x, g]) : ∃ b off cap, v = .slice (some ⟨b, off, none⟩) 6 cap ∧ b < w.heap.size ∧ w.cell? ⟨b, off, none⟩ = some (.string ⟨a.toArray⟩) ∧ w.cell? ⟨b, off + 1, none⟩ = some (.string ⟨p.toArray⟩) ∧ w.cell? ⟨b, off + 2, none⟩ = some (.string ⟨s.toArray⟩) ∧ w.cell? ⟨b, off + 3, none⟩ = some (.string ⟨n.toArray⟩) ∧ w.cell? ⟨b, off + 4, none⟩ = some (.string ⟨x.toArray⟩) ∧ w.cell? ⟨b, off + 5, none⟩ = some (.string ⟨g.toArray⟩) := by
  obtain ⟨va, cap, rfl, hat⟩ := h
  obtain ⟨b, off, rfl, hlt, h0⟩ := hat 0 (by simp)
  have hk : ∀ j (hj : j < [a, p, s, n, x, g].length), w.cell? ⟨b, off + j, none⟩ = some (.string ⟨([a, p, s, n, x, g][j]).toArray⟩) := fun j hj => by
    obtain ⟨b', off', e, _, hc⟩ := hat j hj
    cases e
    exact hc
  exact ⟨b, off, cap, rfl, hlt, h0, hk 1 (by simp), hk 2 (by simp), hk 3 (by simp), hk 4 (by simp), hk 5 (by simp)⟩
theorem six_words {l : List V.Bs} (h : l.length = 6) : ∃ a p s n x g, l = [a, p, s, n, x, g] := by
  match l, h with
  | [a, p, s, n, x, g], _ => exact ⟨a, p, s, n, x, g, rfl⟩
/-- what read returns -/
def ReadPost (l : List V.Bs) (w : World) (e : Ending) (w' : World) : Prop := e = .returned (.tuple #[cval (V.readC l).1, .bool (V.readC l).2]) ∧ Below w.heap.size w w'
end Go.Proofs.YtnhfaincdabdkaaGreatDoor
