/-
  Walks: Format of package ranges and of the reference. (Printed by gen_MY.py.)
-/
import Derived.Test.YtolojkkhmamddaaGreatDoorMX
import Derived.Test.YtolojkkhmamddaaGreatDoorMJ
namespace Go.Proofs.YtolojkkhmamddaaGreatDoor
open Go.RowKit

def txtB (x : V.Itv) : ByteArray := ⟨(V.textI x).toArray⟩
def FmtPost (r : V.Bs × Int) (w : World) (e : Ending) (w' : World) : Prop := e = .returned (.tuple #[.string ⟨r.1.toArray⟩, .int .i64 r.2]) ∧ Below w.heap.size w w'
theorem txt_step {l : List V.Itv} {k : Nat} (h : k < l.length) : (l.take (k + 1)).map txtB = (l.take k).map txtB ++ [txtB l[k]] := by
  rw [List.take_succ_eq_append_getElem h, List.map_append]
  rfl
theorem txt_join {l : List V.Itv} (h : l ≠ []) : Lib.join ((l.map txtB).map (·.data.toList)) V.orT = V.textL l := by
  unfold V.textL
  rw [if_neg (by simpa using h), List.map_map]
  rfl
theorem txt_len {n : Int} {l : List V.Itv} (h : V.Ok n l) (h0 : l ≠ []) : (V.textL l).length ≤ 10000 := by
  rcases l with _ | ⟨x, r⟩
  · exact absurd rfl h0
  · have hle : ∀ y ∈ V.textI x :: r.map V.textI, y.length ≤ 133 := by
      intro y hy
      rw [← List.map_cons (f := V.textI), List.mem_map] at hy
      obtain ⟨z, hz, rfl⟩ := hy
      exact (V.text_back (V.ok_one h hz)).len
    have h1 := V.join_le hle
    have h2 := h.len
    rw [List.length_map] at h1
    rw [List.length_cons] at h2
    show (Lib.join (V.textI x :: r.map V.textI) V.orT).length ≤ _
    omega
theorem grown_row2 {w W1 W2 : World} {N : Nat} {v : Value} {l : List ByteArray} {o : Obj} (h1 : Below N w W1) (hN : N ≤ w.heap.size) (hr : SRow W1 N v l) (h2 : (W1.alloc o).grownBy W2 v.ownBlock) : Below N w W2 :=
  (h1.alloc (Nat.le_trans hN h1.size) o).trans ⟨h2.os, h2.tape, h2.output, h2.size, fun k hk => h2.block k (by have := h1.size; simp; omega) (fun e => by have := GRow.block hr k e.symm; omega)⟩

set_option maxRecDepth 100000 in
set_option maxHeartbeats 3200000 in
theorem rgFormat_any (n : Int) (v : Value) (l : List V.Itv) (w : World) (hm : MaxOk w) (hv : Itvs w v l) (hs : Lens l) (hl : l.length ≤ maxLen) :
    Calls Tryz.prog 34 #[setV n v] w (FmtPost (V.formatR n l) w) := by
  have HV := Lib.hid hv
  obtain ⟨va, vc, rfl⟩ := hv.slice
  have HL := Lib.hid hl
  unfold maxLen at hl
  have HS := Lib.hid hs
  have HF : Hid (V.formatR n l = if V.okR n l then (V.textL l, 0) else ([], 1)) := Lib.hid rfl
  have hb0 : Below w.heap.size w (w.alloc (.cells #[.int .i64 n, .slice va l.length vc] 25)) := (Below.refl _ w).alloc (Nat.le_refl _) _
  have HB0 := Lib.hid hb0
  have HM := Lib.hid (hm.below hb0)
  have c0 : (w.alloc (.cells #[.int .i64 n, .slice va l.length vc] 25)).cell? ⟨w.heap.size, 0, none⟩ = some (.int .i64 n) := by simp [cell_alloc]
  have c1 : (w.alloc (.cells #[.int .i64 n, .slice va l.length vc] 25)).cell? ⟨w.heap.size, 1, none⟩ = some (.slice va l.length vc) := by simp [cell_alloc]
  have hz0 : w.heap.size < (w.alloc (.cells #[.int .i64 n, .slice va l.length vc] 25)).heap.size := by simp
  clear hv hs hb0 hm
  unfold setV
  go_enter Tryz.func34, Tryz.ntmps34
  go_wp2_with fail
  generalize w.alloc (.cells #[.int .i64 n, .slice va l.length vc] 25) = w0 at *
  refine (rgValid_any n (.slice va l.length vc) l w0 HM.out (HV.out.below HB0.out) HS.out HL.out).mono ?_
  rintro e w1 ⟨rfl, hb1⟩
  have HB1 := Lib.hid (HB0.out.trans (hb1.mono HB0.out.size))
  have d0 := below_keep hb1 c0
  have d1 := below_keep hb1 c1
  have hz1 : w.heap.size < w1.heap.size := Nat.lt_of_lt_of_le hz0 hb1.size
  clear hb1 c0 c1 hz0 HM
  rcases hok : V.okR n l with _ | _
  · have HR : Hid (V.formatR n l = ([], 1)) := Lib.hid (by rw [HF.out, hok]; rfl)
    clear hok
    go_wp2
    go_ret2
    exact (by rw [HR.out]; exact ⟨rfl, HB1.out⟩)
  · have HOK := Lib.hid (V.ok_of hok)
    have HF2 : Hid (V.formatR n l = (V.textL l, 0)) := Lib.hid (by rw [HF.out, hok]; rfl)
    clear hok
    by_cases h0 : l = []
    · have hq : ((l.length : Int) == 0) = true := by rw [h0]; rfl
      have HR : Hid (V.formatR n l = (V.noneT, 0)) := Lib.hid (by rw [HF2.out, h0]; rfl)
      clear h0
      go_wp2
      go_ret2
      exact (by rw [HR.out]; exact ⟨rfl, HB1.out⟩)
    · have HNE := Lib.hid h0
      have hq : ((l.length : Int) == 0) = false := by rw [beq_eq_false_iff_ne]; have := List.length_pos_iff.2 h0; omega
      clear h0
      have h32 : l.length ≤ 32 := HOK.out.len
      have HD := Lib.hid d1
      go_wp2_with fail
      clear d0 d1
      go_loopw [4, 17] (fun v iv wx => ∃ k : Nat, k ≤ l.length ∧ iv = .int .i64 k ∧ SRow wx w1.heap.size v ((l.take k).map txtB) ∧ Below w1.heap.size w1 wx) (fun _ iv _ => l.length - (intOf iv).toNat)
      case atStart => exact ⟨0, Nat.zero_le _, rfl, GRow.nil _ _, Below.refl _ _⟩
      case round =>
        obtain ⟨k, hk, rfl, hr, hbx⟩ := hrel
        have HR0 := Lib.hid hr
        have HBX := Lib.hid hbx
        have HBF := Lib.hid (HB1.out.trans (hbx.mono HB1.out.size))
        have e1 := below_keep hbx HD.out
        clear hr hbx
        by_cases hlt : k < l.length
        · obtain ⟨b, off, rfl, hb0, hx⟩ := HV.out.at k hlt
          obtain ⟨h0, h1, h2, h3⟩ := hx.below hb0 HBF.out
          have hi1 : (0 : Int) ≤ (k : Int) := by omega
          have hi2 : (k : Int) < (l.length : Int) := by omega
          have HBK : Hid (V.boundsB n l[k] = true) := Lib.hid (HOK.out.bnd _ (List.getElem_mem hlt))
          have HST := Lib.hid (txt_step hlt)
          have HLK : Hid (((l.take k).map txtB).length ≤ 32) := Lib.hid (by rw [List.length_map, List.length_take]; omega)
          clear hx
          generalize l[k] = x at *
          generalize (l.take k).map txtB = L at *
          have HXA := Lib.hid ((Below.refl wr.heap.size wr).alloc (Nat.le_refl _) (.cells #[.string ⟨x.lo.toArray⟩, .int .i64 x.lk, .string ⟨x.hi.toArray⟩, .int .i64 x.hk] 64))
          go_wp2_with fail
          refine (rgText_any n x _ HBK.out).mono ?_
          rintro e w2 ⟨rfl, hb2⟩
          have HB2 := Lib.hid (HXA.out.trans (hb2.mono HXA.out.size))
          clear hb2 h0 h1 h2 h3
          go_wp2_with (first | (refine wl_appendG baE_len (by decide) baE_one strInfo (by decide) rfl _ _ 51 rfl Tryz.underlying51 w1.heap.size _ L rfl (GRow.below HR0.out (HB2.out.alloc HB2.out.size _)) w2.heap.size (txtB x) rfl (fun j u hu => by rw [World.cell?_alloc_new]; simpa [baE, txtB] using hu) (by have := HLK.out; omega) (by have := HB2.out.size; have := HBX.out.size; simp; omega) ?_; intro v2 W2 hr2 hg2) | fail)
          have HR2 : Hid (SRow W2 w1.heap.size v2 (L ++ [txtB x])) := Lib.hid hr2
          have HB3 := Lib.hid (grown_row2 (HBX.out.trans (HB2.out.mono HBX.out.size)) (Nat.le_refl _) (GRow.below HR0.out HB2.out) hg2)
          clear hr2 hg2
          go_wp2_with fail
          go_roundw
          case rel => exact ⟨k + 1, by omega, by go_num, by rw [HST.out]; exact HR2.out, HB3.out⟩
          case measure => simp [intOf]; omega
        · obtain rfl : k = l.length := by omega
          have HRA : Hid (SRow wr w1.heap.size _ (l.map txtB)) := Lib.hid (by have := HR0.out; rw [List.take_length] at this; exact this)
          go_wp2_with fail
          refine (sjoin_any wr w1.heap.size _ (l.map txtB) ⟨#[32, 124, 124, 32]⟩ HRA.out (by simpa using HNE.out) (by simp; omega) (by rw [show (ByteArray.mk #[32, 124, 124, 32]).data.toList = V.orT from rfl, txt_join HNE.out]; have := txt_len HOK.out HNE.out; omega)).mono ?_
          rintro e w3 ⟨rfl, hb3⟩
          have HB3 := Lib.hid (HBF.out.trans (hb3.mono HBF.out.size))
          have HT : Hid (Lib.join ((l.map txtB).map (·.data.toList)) (ByteArray.mk #[32, 124, 124, 32]).data.toList = V.textL l) := Lib.hid (txt_join HNE.out)
          clear hb3
          rw [HT.out]
          go_wp2
          go_ret2
          exact (by rw [HF2.out]; exact ⟨rfl, HB3.out⟩)

set_option maxRecDepth 100000 in
set_option maxHeartbeats 3200000 in
theorem rrFormat_any (n : Int) (v : Value) (l : List V.Itv) (w : World) (hm : MaxOk w) (hv : Itvs w v l) (hs : Lens l) (hl : l.length ≤ maxLen) :
    Calls Tryz.prog 35 #[setV n v] w (FmtPost (V.formatR n l) w) := by
  have HV := Lib.hid hv
  obtain ⟨va, vc, rfl⟩ := hv.slice
  have HL := Lib.hid hl
  unfold maxLen at hl
  have HS := Lib.hid hs
  have HF : Hid (V.formatR n l = if V.okR n l then (V.textL l, 0) else ([], 1)) := Lib.hid rfl
  have hb0 : Below w.heap.size w (w.alloc (.cells #[.int .i64 n, .slice va l.length vc] 25)) := (Below.refl _ w).alloc (Nat.le_refl _) _
  have HB0 := Lib.hid hb0
  have HM := Lib.hid (hm.below hb0)
  have c0 : (w.alloc (.cells #[.int .i64 n, .slice va l.length vc] 25)).cell? ⟨w.heap.size, 0, none⟩ = some (.int .i64 n) := by simp [cell_alloc]
  have c1 : (w.alloc (.cells #[.int .i64 n, .slice va l.length vc] 25)).cell? ⟨w.heap.size, 1, none⟩ = some (.slice va l.length vc) := by simp [cell_alloc]
  have hz0 : w.heap.size < (w.alloc (.cells #[.int .i64 n, .slice va l.length vc] 25)).heap.size := by simp
  clear hv hs hb0 hm
  unfold setV
  go_enter Tryz.func35, Tryz.ntmps35
  go_wp2_with fail
  generalize w.alloc (.cells #[.int .i64 n, .slice va l.length vc] 25) = w0 at *
  refine (rrValid_any n (.slice va l.length vc) l w0 HM.out (HV.out.below HB0.out) HS.out HL.out).mono ?_
  rintro e w1 ⟨rfl, hb1⟩
  have HB1 := Lib.hid (HB0.out.trans (hb1.mono HB0.out.size))
  have d0 := below_keep hb1 c0
  have d1 := below_keep hb1 c1
  have hz1 : w.heap.size < w1.heap.size := Nat.lt_of_lt_of_le hz0 hb1.size
  clear hb1 c0 c1 hz0 HM
  rcases hok : V.okR n l with _ | _
  · have HR : Hid (V.formatR n l = ([], 1)) := Lib.hid (by rw [HF.out, hok]; rfl)
    clear hok
    go_wp2
    go_ret2
    exact (by rw [HR.out]; exact ⟨rfl, HB1.out⟩)
  · have HOK := Lib.hid (V.ok_of hok)
    have HF2 : Hid (V.formatR n l = (V.textL l, 0)) := Lib.hid (by rw [HF.out, hok]; rfl)
    clear hok
    by_cases h0 : l = []
    · have hq : ((l.length : Int) == 0) = true := by rw [h0]; rfl
      have HR : Hid (V.formatR n l = (V.noneT, 0)) := Lib.hid (by rw [HF2.out, h0]; rfl)
      clear h0
      go_wp2
      go_ret2
      exact (by rw [HR.out]; exact ⟨rfl, HB1.out⟩)
    · have HNE := Lib.hid h0
      have hq : ((l.length : Int) == 0) = false := by rw [beq_eq_false_iff_ne]; have := List.length_pos_iff.2 h0; omega
      clear h0
      have h32 : l.length ≤ 32 := HOK.out.len
      have HD := Lib.hid d1
      go_wp2_with fail
      clear d0 d1
      go_loopw [4, 5] (fun v iv wx => ∃ k : Nat, k ≤ l.length ∧ iv = .int .i64 k ∧ SRow wx w1.heap.size v ((l.take k).map txtB) ∧ Below w1.heap.size w1 wx) (fun _ iv _ => l.length - (intOf iv).toNat)
      case atStart => exact ⟨0, Nat.zero_le _, rfl, GRow.nil _ _, Below.refl _ _⟩
      case round =>
        obtain ⟨k, hk, rfl, hr, hbx⟩ := hrel
        have HR0 := Lib.hid hr
        have HBX := Lib.hid hbx
        have HBF := Lib.hid (HB1.out.trans (hbx.mono HB1.out.size))
        have e1 := below_keep hbx HD.out
        clear hr hbx
        by_cases hlt : k < l.length
        · obtain ⟨b, off, rfl, hb0, hx⟩ := HV.out.at k hlt
          obtain ⟨h0, h1, h2, h3⟩ := hx.below hb0 HBF.out
          have hi1 : (0 : Int) ≤ (k : Int) := by omega
          have hi2 : (k : Int) < (l.length : Int) := by omega
          have HBK : Hid (V.boundsB n l[k] = true) := Lib.hid (HOK.out.bnd _ (List.getElem_mem hlt))
          have HST := Lib.hid (txt_step hlt)
          have HLK : Hid (((l.take k).map txtB).length ≤ 32) := Lib.hid (by rw [List.length_map, List.length_take]; omega)
          clear hx
          generalize l[k] = x at *
          generalize (l.take k).map txtB = L at *
          have HXA := Lib.hid ((Below.refl wr.heap.size wr).alloc (Nat.le_refl _) (.cells #[.string ⟨x.lo.toArray⟩, .int .i64 x.lk, .string ⟨x.hi.toArray⟩, .int .i64 x.hk] 64))
          go_wp2_with fail
          refine (rrText_any n x wr HBK.out).mono ?_
          rintro e w2 ⟨rfl, hb2⟩
          have HB2 := Lib.hid hb2
          clear hb2 h0 h1 h2 h3
          go_wp2_with (first | (refine wl_appendG baE_len (by decide) baE_one strInfo (by decide) rfl _ _ 51 rfl Tryz.underlying51 w1.heap.size _ L rfl (GRow.below HR0.out (HB2.out.alloc HB2.out.size _)) w2.heap.size (txtB x) rfl (fun j u hu => by rw [World.cell?_alloc_new]; simpa [baE, txtB] using hu) (by have := HLK.out; omega) (by have := HB2.out.size; have := HBX.out.size; simp; omega) ?_; intro v2 W2 hr2 hg2) | fail)
          have HR2 : Hid (SRow W2 w1.heap.size v2 (L ++ [txtB x])) := Lib.hid hr2
          have HB3 := Lib.hid (grown_row2 (HBX.out.trans (HB2.out.mono HBX.out.size)) (Nat.le_refl _) (GRow.below HR0.out HB2.out) hg2)
          clear hr2 hg2
          go_wp2_with fail
          go_roundw
          case rel => exact ⟨k + 1, by omega, by go_num, by rw [HST.out]; exact HR2.out, HB3.out⟩
          case measure => simp [intOf]; omega
        · obtain rfl : k = l.length := by omega
          have HRA : Hid (SRow wr w1.heap.size _ (l.map txtB)) := Lib.hid (by have := HR0.out; rw [List.take_length] at this; exact this)
          go_wp2_with fail
          refine (sjoin_any wr w1.heap.size _ (l.map txtB) ⟨#[32, 124, 124, 32]⟩ HRA.out (by simpa using HNE.out) (by simp; omega) (by rw [show (ByteArray.mk #[32, 124, 124, 32]).data.toList = V.orT from rfl, txt_join HNE.out]; have := txt_len HOK.out HNE.out; omega)).mono ?_
          rintro e w3 ⟨rfl, hb3⟩
          have HB3 := Lib.hid (HBF.out.trans (hb3.mono HBF.out.size))
          have HT : Hid (Lib.join ((l.map txtB).map (·.data.toList)) (ByteArray.mk #[32, 124, 124, 32]).data.toList = V.textL l) := Lib.hid (txt_join HNE.out)
          clear hb3
          rw [HT.out]
          go_wp2
          go_ret2
          exact (by rw [HF2.out]; exact ⟨rfl, HB3.out⟩)
end Go.Proofs.YtolojkkhmamddaaGreatDoor
