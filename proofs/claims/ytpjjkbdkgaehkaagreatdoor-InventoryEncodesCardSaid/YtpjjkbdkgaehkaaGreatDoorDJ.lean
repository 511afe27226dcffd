/-
  Walks: the text of a digest, of the reference. (Printed by gen_DJ.py.)
-/
import Derived.Test.YtpjjkbdkgaehkaaGreatDoorDI
import Derived.Deep.RegionHeld3
namespace Go.Proofs.YtpjjkbdkgaehkaaGreatDoor
open Go.RowKit

/-- two bytes laid for an append, as a step of a region that draws -/
theorem step_build2B {ops : Array Oper} {o : Oper} {a : Act} {w : World} {K : Act → World → Prop} {Q : Exit → Act → World → Prop} {E : Prop} (hgd : o.guard = none) (e1 e2 : Operand) (ho : o.op = .buildSlice 30 2 #[(0, e1), (1, e2)])
    (b1 b2 : UInt8) (h1 : a.eval e1 = .int .u8 b1.toNat) (h2 : a.eval e2 = .int .u8 b2.toNat)
    (h : K (a.put o.dst (.slice (some ⟨w.heap.size, 0, none⟩) 2 2)) (w.alloc (.cells (bvals [b1, b2]).toArray 5))) : if Region.wanted o (yielded ops a.tmps) = true then Oper.wp Tryz.prog o a w K Q else E := by
  rw [if_pos (by simp [Region.wanted, hgd])]
  obtain ⟨i, hi, hz, hs, hb⟩ := info_byte
  refine wp_buildSlice _ 5 2 _ ho (bvals [b1, b2]).toArray i _ Tryz.underlying30 hi hz (by rw [hs]; decide) (by rw [hs]; decide) ?_ h
  have := Great.fill_whole (s := 1) (by decide) [Value.int .u8 b1.toNat, Value.int .u8 b2.toNat] ((Array.range (2 * i.size)).map ((Value.int .u8 0).cells[· % (Value.int .u8 0).cells.size]!)) (fun v hv => by
    rcases List.mem_cons.1 hv with rfl | hv
    · rfl
    · rw [List.mem_singleton.1 hv]; rfl) (by rw [hs]; simp)
  rw [hs] at this ⊢
  simp only [h1, h2, List.map_toArray, List.map_cons, List.map_nil]
  exact this.trans (by simp [Value.cells, bvals])

set_option maxRecDepth 100000 in
set_option maxHeartbeats 3200000 in
theorem rHex_any (g cap : Nat) (d : V.Bs) (w : World) (hd : d.length ≤ 1000) (hd0 : 0 < d.length) (hr : ∀ j (h : j < d.length), w.cell? ⟨g, j, none⟩ = some (.int .u8 (d[j]).toNat)) (hg : g < w.heap.size) :
    Calls Tryz.prog 58 #[.slice (some ⟨g, 0, none⟩) d.length cap] w fun e w' => e = .returned (.string ⟨(V.hexB d).toArray⟩) ∧ Below w.heap.size w w' := by
  have HR := Lib.hid hr
  have HB1 : Hid (Buf w.heap.size (.slice none 0 0) (V.hexB (d.take 0)) w w) := Lib.hid (Buf.nil (Below.refl _ _) (Nat.le_refl _))
  clear hr
  go_enter Tryz.func58, Tryz.ntmps58
  go_wp2
  go_loopw [4, 5] (fun ov iv wx => ∃ k : Nat, k ≤ d.length ∧ iv = .int .i64 k ∧ Buf w.heap.size ov (V.hexB (d.take k)) w wx) (fun _ iv _ => d.length - (intOf iv).toNat)
  case atStart => exact ⟨0, Nat.zero_le _, rfl, HB1.out⟩
  case round =>
    obtain ⟨k, hk, rfl, hb⟩ := hrel
    have HB := Lib.hid hb
    obtain ⟨oa, oc, rfl⟩ := hb.slice
    clear hb HB1
    by_cases hlt : k < d.length
    · have hc := (HB.out.2.1.cell (p := ⟨g, k, none⟩) hg).trans (HR.out k hlt)
      have HR2 := Lib.hid (HR.out k hlt)
      have HT := Lib.hid (V.hexB_step hlt)
      have hle := V.hexB_to d k
      have hi1 : (0 : Int) ≤ (k : Int) := by omega
      have hi2 : (k : Int) < (d.length : Int) := by omega
      generalize d[k] = c at *
      obtain ⟨L, hL⟩ : ∃ L, L = V.hexB (d.take k) := ⟨_, rfl⟩
      rw [← hL] at HT hle HB ⊢
      clear hL
      have hc256 := c.toNat_lt
      have HD1 : Hid ((ByteArray.mk #[48, 49, 50, 51, 52, 53, 54, 55, 56, 57, 97, 98, 99, 100, 101, 102]).data.toList[(((c.toNat / 16 : Nat) : Int)).toNat]? = some (V.digL.getD (c.toNat / 16) 0)) := Lib.hid (by rw [Int.toNat_natCast]; exact digL_at (by omega))
      have HD2 : Hid ((ByteArray.mk #[48, 49, 50, 51, 52, 53, 54, 55, 56, 57, 97, 98, 99, 100, 101, 102]).data.toList[(((c.toNat % 16 : Nat) : Int)).toNat]? = some (V.digL.getD (c.toNat % 16) 0)) := Lib.hid (by rw [Int.toNat_natCast]; exact digL_at (by omega))
      go_wp2_with fail
      refine wp_region_held_drew (S := (fun W' => W'.cell? ⟨g, k, none⟩ = some (.int .u8 c.toNat))) (by kernel_rfl) (by (try dsimp only); (try simp only [World.cell?_drew]); exact hc) (fun hHeld => ?_)
      refine wpAnyH_take (i := 0) (v := ?_) rfl (by kernel_rfl) (by kernel_rfl) (by kernel_rfl) (fun _ _ _ h => h) (Or.inl ⟨by rfl, ?_⟩) (by assumption) ?_
      rotate_left
      · (intro w' hSw; (try dsimp only at hSw); go_simp; try with_reducible rfl)
      try simp only [List.getElem_toArray, List.getElem_cons_succ, List.getElem_cons_zero, Act.put, List.setIfInBounds_toArray, List.set_cons_succ, List.set_cons_zero]
      refine wpAnyH_take (i := 1) (v := ?_) rfl (by kernel_rfl) (by kernel_rfl) (by kernel_rfl) (fun _ _ _ h => h) (Or.inl ⟨by rfl, ?_⟩) (by assumption) ?_
      rotate_left
      · (intro w' hSw; (try dsimp only at hSw); go_simp; try with_reducible rfl)
      try simp only [List.getElem_toArray, List.getElem_cons_succ, List.getElem_cons_zero, Act.put, List.setIfInBounds_toArray, List.set_cons_succ, List.set_cons_zero]
      refine wpAnyH_take (i := 2) (v := ?_) rfl (by kernel_rfl) (by kernel_rfl) (by kernel_rfl) (fun _ _ _ h => h) (Or.inl ⟨by rfl, ?_⟩) (by assumption) ?_
      rotate_left
      · (intro w' hSw; (try dsimp only at hSw); go_simp; try with_reducible rfl)
      try simp only [List.getElem_toArray, List.getElem_cons_succ, List.getElem_cons_zero, Act.put, List.setIfInBounds_toArray, List.set_cons_succ, List.set_cons_zero]
      refine wpAnyH_take (i := 3) (v := ?_) rfl (by kernel_rfl) (by kernel_rfl) (by kernel_rfl) (fun _ _ _ h => h) (Or.inl ⟨by rfl, ?_⟩) (by assumption) ?_
      rotate_left
      · (intro w' hSw; (try dsimp only at hSw); go_simp; try with_reducible rfl)
      try simp only [List.getElem_toArray, List.getElem_cons_succ, List.getElem_cons_zero, Act.put, List.setIfInBounds_toArray, List.set_cons_succ, List.set_cons_zero]
      refine wpAnyH_take (i := 4) (v := ?_) rfl (by kernel_rfl) (by kernel_rfl) (by kernel_rfl) (fun _ _ _ h => h) (Or.inl ⟨by rfl, ?_⟩) (by assumption) ?_
      rotate_left
      · (intro w' hSw; (try dsimp only at hSw); go_simp; try with_reducible rfl)
      try simp only [List.getElem_toArray, List.getElem_cons_succ, List.getElem_cons_zero, Act.put, List.setIfInBounds_toArray, List.set_cons_succ, List.set_cons_zero]
      refine wpAnyH_take (i := 5) (v := ?_) rfl (by kernel_rfl) (by kernel_rfl) (by kernel_rfl) (fun _ _ _ h => h) (Or.inl ⟨by rfl, ?_⟩) (by assumption) ?_
      rotate_left
      · (intro w' hSw; (try dsimp only at hSw); go_simp; try with_reducible rfl)
      try simp only [List.getElem_toArray, List.getElem_cons_succ, List.getElem_cons_zero, Act.put, List.setIfInBounds_toArray, List.set_cons_succ, List.set_cons_zero]
      refine wpAnyH_take (i := 6) (v := (.int .u8 ((c.toNat / 16 : Nat) : Int))) rfl (by kernel_rfl) (by kernel_rfl) (by kernel_rfl) (fun _ _ _ h => h) (Or.inl ⟨by rfl, fun w' hSw => ex_shr4 rfl rfl rfl⟩) (by assumption) ?_
      try simp only [List.getElem_toArray, List.getElem_cons_succ, List.getElem_cons_zero, Act.put, List.setIfInBounds_toArray, List.set_cons_succ, List.set_cons_zero]
      refine wpAnyH_take (i := 7) (v := (.int .u8 (V.digL.getD (c.toNat / 16) 0).toNat)) rfl (by kernel_rfl) (by kernel_rfl) (by kernel_rfl) (fun _ _ _ h => h) (Or.inl ⟨by rfl, fun w' hSw => ex_index rfl rfl rfl (by omega) HD1.out⟩) (by assumption) ?_
      try simp only [List.getElem_toArray, List.getElem_cons_succ, List.getElem_cons_zero, Act.put, List.setIfInBounds_toArray, List.set_cons_succ, List.set_cons_zero]
      refine wpAnyH_take (i := 8) (v := ?_) rfl (by kernel_rfl) (by kernel_rfl) (by kernel_rfl) (fun _ _ _ h => h) (Or.inl ⟨by rfl, ?_⟩) (by assumption) ?_
      rotate_left
      · (intro w' hSw; (try dsimp only at hSw); go_simp; try with_reducible rfl)
      try simp only [List.getElem_toArray, List.getElem_cons_succ, List.getElem_cons_zero, Act.put, List.setIfInBounds_toArray, List.set_cons_succ, List.set_cons_zero]
      refine wpAnyH_take (i := 9) (v := ?_) rfl (by kernel_rfl) (by kernel_rfl) (by kernel_rfl) (fun _ _ _ h => h) (Or.inl ⟨by rfl, ?_⟩) (by assumption) ?_
      rotate_left
      · (intro w' hSw; (try dsimp only at hSw); go_simp; try with_reducible rfl)
      try simp only [List.getElem_toArray, List.getElem_cons_succ, List.getElem_cons_zero, Act.put, List.setIfInBounds_toArray, List.set_cons_succ, List.set_cons_zero]
      refine wpAnyH_take (i := 10) (v := ?_) rfl (by kernel_rfl) (by kernel_rfl) (by kernel_rfl) (fun _ _ _ h => h) (Or.inl ⟨by rfl, ?_⟩) (by assumption) ?_
      rotate_left
      · (intro w' hSw; (try dsimp only at hSw); go_simp; try with_reducible rfl)
      try simp only [List.getElem_toArray, List.getElem_cons_succ, List.getElem_cons_zero, Act.put, List.setIfInBounds_toArray, List.set_cons_succ, List.set_cons_zero]
      refine wpAnyH_take (i := 11) (v := ?_) rfl (by kernel_rfl) (by kernel_rfl) (by kernel_rfl) (fun _ _ _ h => h) (Or.inl ⟨by rfl, ?_⟩) (by assumption) ?_
      rotate_left
      · (intro w' hSw; (try dsimp only at hSw); go_simp; try with_reducible rfl)
      try simp only [List.getElem_toArray, List.getElem_cons_succ, List.getElem_cons_zero, Act.put, List.setIfInBounds_toArray, List.set_cons_succ, List.set_cons_zero]
      refine wpAnyH_take (i := 12) (v := ?_) rfl (by kernel_rfl) (by kernel_rfl) (by kernel_rfl) (fun _ _ _ h => h) (Or.inl ⟨by rfl, ?_⟩) (by assumption) ?_
      rotate_left
      · (intro w' hSw; (try dsimp only at hSw); go_simp; try with_reducible rfl)
      try simp only [List.getElem_toArray, List.getElem_cons_succ, List.getElem_cons_zero, Act.put, List.setIfInBounds_toArray, List.set_cons_succ, List.set_cons_zero]
      refine wpAnyH_take (i := 13) (v := (.int .u8 ((c.toNat % 16 : Nat) : Int))) rfl (by kernel_rfl) (by kernel_rfl) (by kernel_rfl) (fun _ _ _ h => h) (Or.inl ⟨by rfl, fun w' hSw => ex_and15 rfl rfl rfl⟩) (by assumption) ?_
      try simp only [List.getElem_toArray, List.getElem_cons_succ, List.getElem_cons_zero, Act.put, List.setIfInBounds_toArray, List.set_cons_succ, List.set_cons_zero]
      refine wpAnyH_take (i := 14) (v := (.int .u8 (V.digL.getD (c.toNat % 16) 0).toNat)) rfl (by kernel_rfl) (by kernel_rfl) (by kernel_rfl) (fun _ _ _ h => h) (Or.inl ⟨by rfl, fun w' hSw => ex_index rfl rfl rfl (by omega) HD2.out⟩) (by assumption) ?_
      try simp only [List.getElem_toArray, List.getElem_cons_succ, List.getElem_cons_zero, Act.put, List.setIfInBounds_toArray, List.set_cons_succ, List.set_cons_zero]
      refine wpAnyH_ready (rs := [15]) (by kernel_rfl) (by simp) ?_
      refine AllReadyH.cons (o := _) rfl (fun K hK => ?_) AllReadyH.nil
      refine step_build2B rfl _ _ rfl (V.digL.getD (c.toNat / 16) 0) (V.digL.getD (c.toNat % 16) 0) rfl rfl ?_
      refine hK.out _ _ ?_ (fun hHeld => ?_)
      · (try dsimp only); exact ((HB.out.below ((Below.refl _ wr).drew.alloc (Nat.le_refl _) (.cells (bvals [V.digL.getD (c.toNat / 16) 0, V.digL.getD (c.toNat % 16) 0]).toArray 5))).2.1.cell (p := ⟨g, k, none⟩) hg).trans HR2.out
      clear hK K
      try simp only [List.getElem_toArray, List.getElem_cons_succ, List.getElem_cons_zero, Act.put, List.setIfInBounds_toArray, List.set_cons_succ, List.set_cons_zero]
      refine wpAnyH_ready (rs := [16]) (by kernel_rfl) (by simp) ?_
      refine AllReadyH.cons (o := _) rfl (fun K hK => ?_) AllReadyH.nil
      have HBN := Lib.hid (bytes_new [V.digL.getD (c.toNat / 16) 0, V.digL.getD (c.toNat % 16) 0] wr.drew)
      have HB4 := Lib.hid (HB.out.below ((Below.refl _ wr).drew.alloc (Nat.le_refl _) (.cells (bvals [V.digL.getD (c.toNat / 16) 0, V.digL.getD (c.toNat % 16) 0]).toArray 5)))
      refine step_bytes rfl _ _ rfl w.heap.size (.slice oa L.length oc) L w rfl HB4.out wr.drew.heap.size 2 [V.digL.getD (c.toNat / 16) 0, V.digL.getD (c.toNat % 16) 0] rfl HBN.out (by simp; omega) ?_
      intro v9 w9 hb9
      refine hK.out _ _ ?_ (fun hHeld => ?_)
      · (try dsimp only); exact (hb9.2.1.cell (p := ⟨g, k, none⟩) hg).trans HR2.out
      clear hK K
      try simp only [List.getElem_toArray, List.getElem_cons_succ, List.getElem_cons_zero, Act.put, List.setIfInBounds_toArray, List.set_cons_succ, List.set_cons_zero]
      refine wpAnyH_take (i := 17) (v := ?_) rfl (by kernel_rfl) (by kernel_rfl) (by kernel_rfl) (fun _ _ _ h => h) (Or.inl ⟨by rfl, ?_⟩) (by assumption) ?_
      rotate_left
      · (intro w' hSw; (try dsimp only at hSw); go_simp; try with_reducible rfl)
      try simp only [List.getElem_toArray, List.getElem_cons_succ, List.getElem_cons_zero, Act.put, List.setIfInBounds_toArray, List.set_cons_succ, List.set_cons_zero]
      refine wpAnyH_done (by kernel_rfl) ?_ _
      have HB9 := Lib.hid hb9
      clear hb9 HBN HB4 HB hHeld hc
      go_wp2
      go_roundw
      case rel => exact ⟨k + 1, by omega, by go_num, by rw [HT.out]; exact HB9.out⟩
      case measure => simp [intOf]; omega
    · obtain rfl : k = d.length := by omega
      rw [List.take_length] at HB ⊢
      have hcv := conv_buf HB.out (by rw [V.hexB_len]; omega)
      have HBL := Lib.hid HB.out.2.1
      go_wp2
      go_ret
      exact ⟨rfl, HBL.out⟩

/-- the bytes of a buffer that is not empty -/
theorem Buf.at {N : Nat} {v : Value} {l : V.Bs} {W0 w : World} (h : Buf N v l W0 w) (h0 : 0 < l.length) : ∃ g cap, v = .slice (some ⟨g, 0, none⟩) l.length cap ∧ N ≤ g ∧ g < w.heap.size ∧ ∀ j (hj : j < l.length), w.cell? ⟨g, j, none⟩ = some (.int .u8 (l[j]).toNat) := by
  rcases h.1.2 with ⟨_, hn⟩ | ⟨g, cap, cur, fz, hv, hb, hg, hnc, hm, hsz, hq, htk⟩
  · omega
  · refine ⟨g, cap, hv, hb, (Array.getElem?_eq_some_iff.1 hg).1, fun j hj => ?_⟩
    have hc : w.cell? ⟨g, j, none⟩ = cur[j]? := by
      unfold World.cell?
      rw [hg]
      rfl
    have h1 : (bvals l)[j]? = some (.int .u8 (l[j]).toNat) := by simp [bvals, hj]
    rw [← htk, List.getElem?_take] at h1
    split at h1
    · rw [hc]; simpa using h1
    · cases h1

set_option maxRecDepth 100000 in
set_option maxHeartbeats 3200000 in
theorem rFormat_any (d : V.Bs) (w : World) (hd : d.length = 32) :
    Calls Tryz.prog 30 #[.agg (bvals d).toArray] w fun e w' => e = .returned (.string ⟨(V.fmtB d).toArray⟩) ∧ Below w.heap.size w w' := by
  have hb1 : Below w.heap.size w (w.alloc (.cells (bvals d).toArray 23)) := (Below.refl _ w).alloc (Nat.le_refl _) _
  have hc0 : ∀ j (h : j < d.length), (w.alloc (.cells (bvals d).toArray 23)).cell? ⟨w.heap.size, j, none⟩ = some (.int .u8 (d[j]).toNat) := fun j h => by
    rw [World.cell?_alloc_new]
    simp [bvals, h]
  have hz : w.heap.size < (w.alloc (.cells (bvals d).toArray 23)).heap.size := by simp
  have HB1 := Lib.hid hb1
  have HC := Lib.hid hc0
  have HZ := Lib.hid hz
  clear hb1 hc0 hz
  have hl := V.hexB_len d
  have hsum : ¬ 9223372036854775807 < (7 : Int) + ((V.hexB d).length : Int) := by omega
  have hsz := sz_arr (V.hexB d)
  go_enter Tryz.func30, Tryz.ntmps30
  go_wp2
  generalize w.alloc (.cells (bvals d).toArray 23) = w1 at *
  have HBF : Hid (Buf w1.heap.size (.slice none 0 0) (d.take 0) w1 w1) := Lib.hid (Buf.nil (Below.refl _ _) (Nat.le_refl _))
  go_loopw [3, 4] (fun ov iv wx => ∃ k : Nat, k ≤ 32 ∧ iv = .int .i64 k ∧ Buf w1.heap.size ov (d.take k) w1 wx) (fun _ iv _ => 32 - (intOf iv).toNat)
  case atStart => exact ⟨0, Nat.zero_le _, rfl, HBF.out⟩
  case round =>
    obtain ⟨k, hk, rfl, hb⟩ := hrel
    have HB := Lib.hid hb
    obtain ⟨oa, oc, rfl⟩ := hb.slice
    clear hb HBF
    by_cases hlt : k < 32
    · have hc := (HB.out.2.1.cell (p := ⟨w.heap.size, k, none⟩) HZ.out).trans (HC.out k (by omega))
      have HT := Lib.hid (List.take_succ_eq_append_getElem (l := d) (i := k) (by omega))
      have hle : (d.take k).length ≤ 32 := by rw [List.length_take]; omega
      have hi1 : (0 : Int) ≤ (k : Int) := by omega
      have hi2 : (k : Int) < 32 := by omega
      generalize d[k]'(by omega) = c at *
      obtain ⟨L, hL⟩ : ∃ L, L = d.take k := ⟨_, rfl⟩
      rw [← hL] at HT hle HB ⊢
      clear hL
      have HB2 : Hid (Buf w1.heap.size (.slice oa L.length oc) L w1 (wr.alloc (.cells #[.int .u8 c.toNat] 5))) := Lib.hid (HB.out.below ((Below.refl _ wr).alloc (Nat.le_refl _) _))
      have HBN := Lib.hid (bytes_new [c] wr)
      go_wp2_with (first | (refine wl_bytes rfl _ _ rfl w1.heap.size (.slice oa L.length oc) L w1 rfl HB2.out wr.heap.size 1 [c] rfl HBN.out (by simp; omega) ?_; intro v9 w9 hb9) | fail)
      have HB9 := Lib.hid hb9
      clear hb9 HB2 HBN HB hc
      go_wp2
      go_roundw
      case rel => exact ⟨k + 1, by omega, by go_num, by rw [HT.out]; exact HB9.out⟩
      case measure => simp [intOf]; omega
    · obtain rfl : k = 32 := by omega
      have ht : d.take 32 = d := List.take_of_length_le (by omega)
      rw [ht] at HB ⊢
      obtain ⟨g, cap, hv, hg0, hg, hcs⟩ := HB.out.at (by omega)
      cases hv
      have H := rHex_any g oc d wr (by omega) (by omega) hcs hg
      rw [hd] at H
      have HBB := Lib.hid HB.out.2.1
      go_wp2_with fail
      refine H.mono ?_
      clear H hcs HB
      rintro e w2 ⟨rfl, hb2⟩
      have HB2 := Lib.hid (HB1.out.trans ((HBB.out.trans (hb2.mono HBB.out.size)).mono (Nat.le_of_lt HZ.out)))
      clear hb2
      go_wp2
      go_ret
      exact ⟨congrArg (fun x => Ending.returned (.string x)) (bs_ext (by simp [V.fmtB, ByteArray.data_append])), HB2.out⟩
end Go.Proofs.YtpjjkbdkgaehkaaGreatDoor
