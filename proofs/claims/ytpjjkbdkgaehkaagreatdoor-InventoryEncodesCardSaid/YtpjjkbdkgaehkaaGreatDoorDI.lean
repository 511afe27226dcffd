/-
  Walks: the text of a digest, of the program.
-/
import Derived.Test.YtpjjkbdkgaehkaaGreatDoorPF
import Derived.Test.YtpjjkbdkgaehkaaGreatDoorDB
import Derived.Test.YtpjjkbdkgaehkaaGreatDoorDH
import Derived.Test.YtpjjkbdkgaehkaaGreatDoorDE
namespace Go.Proofs.YtpjjkbdkgaehkaaGreatDoor
open Go.RowKit

/-- at an operation whose value is known -/
theorem wl_ex {P : Program} {ops : Array Oper} {rest : List Oper} {o : Oper} {a : Act} {w : World} {Q : Exit → Act → World → Prop} (hgd : o.guard = none) (v : Value) (hr : (execOp a.eval o).run P w = .ok (.value v) w)
    (h : wpList P ops Q rest (a.put o.dst v) w) : wpList P ops Q (o :: rest) a w := by
  refine wpList_plain hgd fun K hK => ?_
  unfold Oper.wp
  rw [hr]
  exact hK _ _ h
theorem bvals_snoc (l : V.Bs) (c : UInt8) : bvals l ++ [Value.int .u8 c.toNat] = bvals (l ++ [c]) := by simp [bvals]
theorem bvals_cells (l : V.Bs) : bvals l = Lib.byteCells l := rfl

set_option maxRecDepth 100000 in
set_option maxHeartbeats 3200000 in
theorem digHex_any (g : Nat) (d : V.Bs) (w : World) (hd : d.length ≤ 1000) (hr : ∀ j (h : j < d.length), w.cell? ⟨g, j, none⟩ = some (.int .u8 (d[j]).toNat)) (hg : g < w.heap.size) :
    Calls Tryz.prog 53 #[.slice (some ⟨g, 0, none⟩) d.length d.length] w fun e w' => e = .returned (.string ⟨(V.hexB d).toArray⟩) ∧ Below w.heap.size w w' := by
  have HR := Lib.hid hr
  clear hr
  have hb1 : Below w.heap.size w (w.alloc (.cells #[.pointer none, .slice none 0 0] 123)) := (Below.refl _ w).alloc (Nat.le_refl _) _
  have HI : Hid (Lib.IsBuilder 123 5 w.heap.size w.heap.size (bvals (V.hexB (d.take 0))) (w.alloc (.cells #[.pointer none, .slice none 0 0] 123)) ∧ Below w.heap.size w (w.alloc (.cells #[.pointer none, .slice none 0 0] 123))) := Lib.hid ⟨Lib.fresh_isBuilder _ _ w, hb1⟩
  clear hb1
  go_enter Tryz.func53, Tryz.ntmps53
  go_wp2
  go_loopw [8] (fun iv wx => ∃ k : Nat, k ≤ d.length ∧ iv = .int .i64 k ∧ Lib.IsBuilder 123 5 w.heap.size w.heap.size (bvals (V.hexB (d.take k))) wx ∧ Below w.heap.size w wx) (fun iv _ => d.length - (intOf iv).toNat)
  case atStart => exact ⟨0, Nat.zero_le _, rfl, HI.out⟩
  case round =>
    obtain ⟨k, hk, rfl, hbi, hbe⟩ := hrel
    have HBI := Lib.hid hbi
    have HBE := Lib.hid hbe
    clear hbi hbe HI
    by_cases hlt : k < d.length
    · have hc := (HBE.out.cell (p := ⟨g, k, none⟩) hg).trans (HR.out k hlt)
      have HT := Lib.hid (V.hexB_step hlt)
      have hle := V.hexB_to d k
      have hi1 : (0 : Int) ≤ (k : Int) := by omega
      have hi2 : (k : Int) < (d.length : Int) := by omega
      generalize d[k] = c at *
      obtain ⟨L, hL⟩ : ∃ L, L = V.hexB (d.take k) := ⟨_, rfl⟩
      rw [← hL] at HT hle HBI
      clear hL
      have hc256 := c.toNat_lt
      have HD1 : Hid ((ByteArray.mk #[48, 49, 50, 51, 52, 53, 54, 55, 56, 57, 97, 98, 99, 100, 101, 102]).data.toList[(((c.toNat / 16 : Nat) : Int)).toNat]? = some (V.digL.getD (c.toNat / 16) 0)) := Lib.hid (by rw [Int.toNat_natCast]; exact digL_at (by omega))
      have HD2 : Hid ((ByteArray.mk #[48, 49, 50, 51, 52, 53, 54, 55, 56, 57, 97, 98, 99, 100, 101, 102]).data.toList[(((c.toNat % 16 : Nat) : Int)).toNat]? = some (V.digL.getD (c.toNat % 16) 0)) := Lib.hid (by rw [Int.toNat_natCast]; exact digL_at (by omega))
      go_wp2_with (first | (refine wl_ex rfl (.int .u8 ((c.toNat / 16 : Nat) : Int)) (ex_shr4 rfl rfl rfl) ?_) | (refine wl_ex rfl (.int .u8 (V.digL.getD (c.toNat / 16) 0).toNat) (ex_index rfl rfl rfl (by omega) HD1.out) ?_) | fail)
      refine (writeByte_any w.heap.size w.heap.size _ _ wr HBI.out (by rw [bvals_len]; omega) HBE.out.size).mono ?_
      rintro e w1 ⟨rfl, h1, hb1⟩
      have HB1 := Lib.hid h1
      have HE1 := Lib.hid (HBE.out.trans hb1)
      clear h1 hb1 HBI HBE hc
      go_wp2_with (first | (refine wl_ex rfl (.int .u8 ((c.toNat % 16 : Nat) : Int)) (ex_and15 rfl rfl rfl) ?_) | (refine wl_ex rfl (.int .u8 (V.digL.getD (c.toNat % 16) 0).toNat) (ex_index rfl rfl rfl (by omega) HD2.out) ?_) | fail)
      refine (writeByte_any w.heap.size w.heap.size _ _ w1 HB1.out (by rw [bvals_snoc, bvals_len, List.length_append, List.length_singleton]; omega) HE1.out.size).mono ?_
      rintro e w2 ⟨rfl, h2, hb2⟩
      have HB2 := Lib.hid h2
      have HE2 := Lib.hid (HE1.out.trans hb2)
      clear h2 hb2 HB1 HE1
      go_wp2
      go_roundw
      case rel => exact ⟨k + 1, by omega, by go_num, by
        have := HB2.out
        rw [bvals_snoc, bvals_snoc, List.append_assoc] at this
        rw [HT.out]
        exact this, HE2.out⟩
      case measure => simp [intOf]; omega
    · obtain rfl : k = d.length := by omega
      rw [List.take_length] at HBI
      go_wp2_with fail
      refine (Tryz.Builder_String_any w.heap.size w.heap.size (V.hexB d) wr (by rw [← bvals_cells]; exact HBI.out) HBE.out.size).mono ?_
      rintro e w1 ⟨rfl, hb1⟩
      have HE1 := Lib.hid (HBE.out.trans hb1)
      clear hb1
      go_wp2
      go_ret
      exact ⟨rfl, HE1.out⟩

set_option maxRecDepth 100000 in
set_option maxHeartbeats 3200000 in
theorem digFormat_any (d : V.Bs) (w : World) (hd : d.length = 32) :
    Calls Tryz.prog 26 #[.agg (bvals d).toArray] w fun e w' => e = .returned (.string ⟨(V.fmtB d).toArray⟩) ∧ Below w.heap.size w w' := by
  have hb1 : Below w.heap.size w (w.alloc (.cells (bvals d).toArray 23)) := (Below.refl _ w).alloc (Nat.le_refl _) _
  have HB1 := Lib.hid hb1
  have HC : Hid (∀ j (h : j < d.length), (w.alloc (.cells (bvals d).toArray 23)).cell? ⟨w.heap.size, j, none⟩ = some (.int .u8 (d[j]).toNat)) := Lib.hid (fun j h => by
    rw [World.cell?_alloc_new]
    simp [bvals, h])
  clear hb1
  have HZ : Hid (w.heap.size < (w.alloc (.cells (bvals d).toArray 23)).heap.size) := Lib.hid (by simp)
  have hl := V.hexB_len d
  have hsz := sz_arr (V.hexB d)
  have hsum : ¬ 9223372036854775807 < (7 : Int) + ((V.hexB d).length : Int) := by omega
  go_enter Tryz.func26, Tryz.ntmps26
  go_wp2_with fail
  have H := digHex_any w.heap.size d _ (by omega) HC.out HZ.out
  rw [hd] at H
  refine H.mono ?_
  clear H
  rintro e w1 ⟨rfl, hb2⟩
  have HB2 := Lib.hid (HB1.out.trans (hb2.mono (Nat.le_of_lt HZ.out)))
  clear hb2 HB1 HC
  go_wp2
  go_ret
  exact ⟨congrArg (fun x => Ending.returned (.string x)) (bs_ext (by simp [V.fmtB, ByteArray.data_append])), HB2.out⟩
end Go.Proofs.YtpjjkbdkgaehkaaGreatDoor
