/-
  Walk: alternative of the reference of range sets.
  Rows of range sets of one's own; slices.Clone of intervals; splits at " || "; what Parse returns.
-/
import Derived.Test.YtpjjkbdkgaehkaaGreatDoorNC
import Derived.Test.YtpjjkbdkgaehkaaGreatDoorNB
import Derived.Test.YtpjjkbdkgaehkaaGreatDoorMQ
import Derived.Test.YtpjjkbdkgaehkaaGreatDoorMO
namespace Go.Proofs.YtpjjkbdkgaehkaaGreatDoor
open Go.RowKit

theorem lens_ok {n : Int} {l : List V.Itv} (h : V.Ok n l) : Lens l := fun x hx => by
  have hb := h.bnd x hx
  unfold V.boundsB at hb
  rw [Bool.and_eq_true] at hb
  have h1 := (bound_cases hb.1).2
  have h2 := (bound_cases hb.2).2
  unfold maxLen
  omega

set_option maxRecDepth 100000 in
set_option maxHeartbeats 6400000 in
theorem rrAlternative_any (n : Int) (s : V.Bs) (w : World) (hm : MaxOk w) (hn : V.scheme n = true) (hs : s.length ≤ 100000) :
    Calls Tryz.prog 40 #[.int .i64 n, .string ⟨s.toArray⟩] w (AltPost n (V.altP n s) w) := by
  have HN := Lib.hid hn
  have HM := Lib.hid hm
  have HLS := Lib.hid hs
  have HF : Hid (V.altP n s = if s = V.noneT then some [] else if s = [42] then some [V.noI] else V.altGo n [V.noI] (V.splitOn 32 s)) := Lib.hid rfl
  have HSZ : Hid ((ByteArray.mk s.toArray).size ≤ 100000) := Lib.hid (by simpa [ByteArray.size] using hs)
  have HSD : Hid ((ByteArray.mk s.toArray).data.toList = s) := Lib.hid rfl
  have hb0 : Below w.heap.size w (w.alloc (.cells #[.int .i64 0, .slice none 0 0] 39)) := (Below.refl _ w).alloc (Nat.le_refl _) _
  have K0 : Hid ((w.alloc (.cells #[.int .i64 0, .slice none 0 0] 39)).heap[w.heap.size]? = some (.cells #[.int .i64 0, .slice none 0 0] 39 (0, 0))) := Lib.hid (by rw [heap_alloc, if_pos rfl])
  have HB0 := Lib.hid hb0
  clear hb0 hm hs hn
  generalize (ByteArray.mk s.toArray) = S at *
  obtain ⟨W0, hW0⟩ : ∃ W0, W0 = (w.alloc (.cells #[.int .i64 0, .slice none 0 0] 39)).alloc (.cells #[.string ⟨#[]⟩, .int .i64 0, .string ⟨#[]⟩, .int .i64 0] 80) := ⟨_, rfl⟩
  obtain ⟨W1, hW1⟩ : ∃ W1, W1 = W0.alloc (.cells #[.int .i64 n, .slice (some ⟨w.heap.size + 1, 0, none⟩) 1 1] 39) := ⟨_, rfl⟩
  have hz0 : W0.heap.size = w.heap.size + 2 := by rw [hW0]; simp
  have hI : W0.heap[w.heap.size + 1]? = some (.cells (itvC V.noI) 80 (0, 0)) := by rw [hW0, heap_alloc, if_pos (by simp)]; rfl
  have hb1 : Below W0.heap.size W0 W1 := by rw [hW1]; exact (Below.refl _ _).alloc (Nat.le_refl _) _
  have hB1 : Below w.heap.size w W1 := by rw [hW1, hW0]; exact ((HB0.out.alloc (by simp) _).alloc (by simp; omega) _)
  have hR1 : W1.heap[w.heap.size]? = some (.cells #[.int .i64 0, .slice none 0 0] 39 (0, 0)) := by rw [hW1, heap_alloc, if_neg (by omega), hW0, heap_alloc, if_neg (by simp)]; exact K0.out
  have hX1 : W1.heap[w.heap.size + 2]? = some (.cells #[.int .i64 n, .slice (some ⟨w.heap.size + 1, 0, none⟩) 1 1] 39 (0, 0)) := by rw [hW1, heap_alloc, if_pos (by omega)]
  have hz1 : W1.heap.size = w.heap.size + 3 := by rw [hW1]; simp; omega
  have hS1 : Itvs W1 (.slice (some ⟨w.heap.size + 1, 0, none⟩) 1 1) [V.noI] := (itvs_at hI).below hb1
  have HW1 : Hid (((w.alloc (.cells #[.int .i64 0, .slice none 0 0] 39)).alloc (.cells #[.string ⟨#[]⟩, .int .i64 0, .string ⟨#[]⟩, .int .i64 0] 80)).alloc (.cells #[.int .i64 n, .slice (some ⟨w.heap.size + 1, 0, none⟩) 1 1] 39) = W1) := Lib.hid (by rw [hW1, hW0])
  have HB1 := Lib.hid hB1
  have HR1 := Lib.hid hR1
  have HX1 := Lib.hid hX1
  have HZ1 := Lib.hid hz1
  have HS1 := Lib.hid hS1
  clear hW0 hW1 hz0 hI hb1 hB1 hR1 hX1 hz1 hS1
  by_cases h1 : s = V.noneT
  · have HT : (S.toList == [110, 111, 110, 101]) = true := by rw [ByteArray.toList_eq, HSD.out, h1]; rfl
    have HR : Hid (V.altP n s = some []) := Lib.hid (by rw [HF.out, if_pos h1])
    clear h1
    go_enter Tryz.func40, Tryz.ntmps40
    go_wp2_with (first
      | (refine wl_put1 rfl 37 _ _ rfl (w.heap.size + 1 + 1) 1 #[.int .i64 n, .slice (some ⟨w.heap.size + 1, 0, none⟩) 1 1] _ (by rw [HW1.out]; exact HX1.out) (by simp) rfl (.slice none 0 0) rfl itvsSize rfl ?_; rw [HW1.out]; intro W5 hp5; have x0 : W5.cell? ⟨w.heap.size + 1 + 1, 0, none⟩ = some (.int .i64 n) := Lib.cell_of_heap hp5.here 0; have x1 : W5.cell? ⟨w.heap.size + 1 + 1, 1, none⟩ = some (.slice none 0 0) := Lib.cell_of_heap hp5.here 1; have HK5 := Lib.hid (hp5.other HR1.out (by omega)); have HB5 := Lib.hid (hp5.below HB1.out (by omega)); clear hp5)
      | (refine wl_putRow rfl 39 _ _ rfl w.heap.size #[.int .i64 0, .slice none 0 0] _ HK5.out rfl #[.int .i64 n, .slice none 0 0] rfl rfl (by kernel_rfl) (setC_all _ _ _ _) ?_; intro W2 hp2; have z0 : W2.cell? ⟨w.heap.size, 0, none⟩ = some (.int .i64 n) := Lib.cell_of_heap hp2.here 0; have z1 : W2.cell? ⟨w.heap.size, 1, none⟩ = some (.slice none 0 0) := Lib.cell_of_heap hp2.here 1)
      | fail)
    have HBF := Lib.hid (hp2.below HB5.out (Nat.le_refl _))
    clear hp2
    exact bodyPost_ret (v := .tuple #[.agg #[.int .i64 n, .slice none 0 0], .bool true]) (by simp [results, Tryz.results40, go_sem, z0, z1]) rfl (AltPost.yes HR.out HBF.out (Itvs.nil _) (fun c hc => by cases hc))
  · have HT : (S.toList == [110, 111, 110, 101]) = false := by rw [beq_eq_false_iff_ne, ByteArray.toList_eq, HSD.out]; exact h1
    have HF1 : Hid (V.altP n s = if s = [42] then some [V.noI] else V.altGo n [V.noI] (V.splitOn 32 s)) := Lib.hid (by rw [HF.out, if_neg h1])
    clear h1
    go_enter Tryz.func40, Tryz.ntmps40
    by_cases h2 : s = [42]
    · have HT2 : (S.toList == [42]) = true := by rw [ByteArray.toList_eq, HSD.out, h2]; rfl
      have HR : Hid (V.altP n s = some [V.noI]) := Lib.hid (by rw [HF1.out, if_pos h2])
      clear h2
      go_wp2_with (first | (refine wl_putRow rfl 39 _ _ rfl w.heap.size #[.int .i64 0, .slice none 0 0] _ (by rw [HW1.out]; exact HR1.out) rfl #[.int .i64 n, .slice (some ⟨w.heap.size + 1, 0, none⟩) 1 1] rfl rfl (by kernel_rfl) (setC_all _ _ _ _) ?_; rw [HW1.out]; intro W2 hp2; have z0 : W2.cell? ⟨w.heap.size, 0, none⟩ = some (.int .i64 n) := Lib.cell_of_heap hp2.here 0; have z1 : W2.cell? ⟨w.heap.size, 1, none⟩ = some (.slice (some ⟨w.heap.size + 1, 0, none⟩) 1 1) := Lib.cell_of_heap hp2.here 1) | fail)
      have HBF := Lib.hid (hp2.below HB1.out (Nat.le_refl _))
      have HIV := Lib.hid (hp2.itvs HS1.out (fun c hc => by simp [Value.ownBlock] at hc; omega))
      clear hp2
      exact bodyPost_ret (v := .tuple #[.agg #[.int .i64 n, .slice (some ⟨w.heap.size + 1, 0, none⟩) 1 1], .bool true]) (by simp [results, Tryz.results40, go_sem, z0, z1]) rfl (AltPost.yes HR.out HBF.out HIV.out (fun c hc => by simp [Value.ownBlock] at hc; omega))
    · have HT2 : (S.toList == [42]) = false := by rw [beq_eq_false_iff_ne, ByteArray.toList_eq, HSD.out]; exact h2
      have HF2 : Hid (V.altP n s = V.altGo n [V.noI] (V.splitOn 32 s)) := Lib.hid (by rw [HF1.out, if_neg h2])
      have HPL : Hid (∀ x ∈ V.splitOn 32 s, x.length ≤ 100000) := Lib.hid (fun x hx => Nat.le_trans (splitOn_mem 32 s x hx) HLS.out)
      have HLL : Hid ((V.splitOn 32 s).length ≤ 100001) := Lib.hid (Nat.le_trans (splitOn_le 32 s) (by have := HLS.out; omega))
      clear h2
      go_wp2_with fail
      rw [HW1.out]
      refine (split_any S 32 W1 (HM.out.below HB1.out) (by have := HSZ.out; omega)).mono ?_
      rintro e W2 ⟨rfl, hW2⟩
      rw [HSD.out] at hW2 ⊢
      have hb2 : Below W1.heap.size W1 W2 := by rw [hW2]; exact (Below.refl _ _).alloc (Nat.le_refl _) _
      have hINV : AltInv n w w.heap.size (w.heap.size + 2) W1.heap.size (V.splitOn 32 s) [V.noI] (.slice (some ⟨w.heap.size + 1, 0, none⟩) 1 1) W2 := by
        refine ⟨HB1.out.trans (hb2.mono HB1.out.size), keep4 hb2 HR1.out, keep4 hb2 HX1.out, V.one_all HN.out, HS1.out.below hb2, (fun c hc => ?_), (fun j hj => ?_)⟩
        · simp [Value.ownBlock] at hc; omega
        · rw [hW2, World.cell?_alloc_new]; exact strCells_at _ j hj
      have HINV := Lib.hid hINV
      have hz1 : W1.heap.size = w.heap.size + 3 := HZ1.out
      have hz2 : W2.heap.size = w.heap.size + 4 := by rw [hW2]; simp; omega
      have hll : (V.splitOn 32 s).length ≤ 100001 := HLL.out
      clear hb2 hINV hW2
      rw [hz1] at HINV ⊢
      clear hz1
      have HZ2 := Lib.hid hz2
      clear hz2
      have HNEQ : Hid (V.altP n s = V.altGo n [V.noI] ((V.splitOn 32 s).drop 0)) := Lib.hid HF2.out
      generalize V.splitOn 32 s = L at *
      go_wp2_with fail
      go_loopw [8] (fun iv wx => ∃ (k : Nat) (out : List V.Itv) (u : Value), k ≤ L.length ∧ iv = .int .i64 k ∧ V.altP n s = V.altGo n out (L.drop k) ∧ AltInv n w w.heap.size (w.heap.size + 2) (w.heap.size + 3) L out u wx) (fun iv _ => L.length - (intOf iv).toNat)
      case atStart => exact ⟨0, _, _, Nat.zero_le _, rfl, HNEQ.out, HINV.out⟩
      case round =>
        obtain ⟨k, out, u, hk, rfl, heq, hinv⟩ := hrel
        have HE := Lib.hid heq
        have HI := Lib.hid hinv
        obtain ⟨p, q, rfl⟩ := hinv.set.slice
        clear heq hinv
        have x0 : wr.cell? ⟨w.heap.size + 1 + 1, 0, none⟩ = some (.int .i64 n) := Lib.cell_of_heap HI.out.box 0
        have x1 : wr.cell? ⟨w.heap.size + 1 + 1, 1, none⟩ = some (.slice p out.length q) := Lib.cell_of_heap HI.out.box 1
        by_cases hlt : k < L.length
        · have hc := HI.out.txt k hlt
          have hi1 : (0 : Int) ≤ (k : Int) := by omega
          have hi2 : (k : Int) < (L.length : Int) := by omega
          have HLX := Lib.hid (HPL.out _ (List.getElem_mem hlt))
          have HST := Lib.hid (fun (y : V.Itv) hy => altGo_step (n := n) (out := out) (y := y) hlt hy)
          have HNO := Lib.hid (fun hy => altGo_none (n := n) (out := out) hlt hy)
          generalize L[k] = x at *
          go_wp2_with fail
          refine (rrCondition_any n x wr (HM.out.below HI.out.below) HLX.out).mono ?_
          rintro e w2 ⟨y, b, rfl, hor, hb2⟩
          have HOR := Lib.hid hor
          have HI2 := Lib.hid (HI.out.later hb2)
          clear hor hb2 hc x0 x1
          have x0 : w2.cell? ⟨w.heap.size + 1 + 1, 0, none⟩ = some (.int .i64 n) := Lib.cell_of_heap HI2.out.box 0
          have x1 : w2.cell? ⟨w.heap.size + 1 + 1, 1, none⟩ = some (.slice p out.length q) := Lib.cell_of_heap HI2.out.box 1
          unfold itvV
          rcases b with _ | _
          · have HR : Hid (V.altP n s = none) := Lib.hid (by
              rcases HOR.out with ⟨_, h⟩ | ⟨h, _⟩
              · rw [HE.out, HNO.out h]
              · cases h)
            have HBY := Lib.hid ((Below.refl w2.heap.size w2).alloc (Nat.le_refl _) (.cells (itvC y) 80))
            go_wp2_with (first | (refine wl_putRow rfl 39 _ _ rfl w.heap.size #[.int .i64 0, .slice none 0 0] _ (HI2.out.later HBY.out).res rfl #[.int .i64 0, .slice none 0 0] rfl rfl (by kernel_rfl) (setC_all _ _ _ _) ?_; intro W5 hp5; have z0 : W5.cell? ⟨w.heap.size, 0, none⟩ = some (.int .i64 0) := Lib.cell_of_heap hp5.here 0; have z1 : W5.cell? ⟨w.heap.size, 1, none⟩ = some (.slice none 0 0) := Lib.cell_of_heap hp5.here 1) | fail)
            have HBF := Lib.hid (hp5.below (HI2.out.later HBY.out).below (Nat.le_refl _))
            clear hp5
            exact bodyPost_ret (v := .tuple #[.agg #[.int .i64 0, .slice none 0 0], .bool false]) (by simp [results, Tryz.results40, go_sem, z0, z1]) rfl (by rw [HR.out]; exact AltPost.no HBF.out)
          · have HC : Hid (V.condP n x = some y) := Lib.hid (by
              rcases HOR.out with ⟨h, _⟩ | ⟨_, h⟩
              · cases h
              · exact h)
            have HOK := Lib.hid (V.condP_ok HN.out HC.out)
            have hbY : Below w2.heap.size w2 ((w2.alloc (.cells (itvC y) 80)).alloc (.cells (itvC y) 80)) := ((Below.refl _ _).alloc (Nat.le_refl _) _).alloc (by simp) _
            have HY : Hid (((w2.alloc (.cells (itvC y) 80)).alloc (.cells (itvC y) 80)).heap[w2.heap.size + 1]? = some (.cells (itvC y) 80 (0, 0))) := Lib.hid (by rw [heap_alloc, if_pos (by simp)])
            have HI4 := Lib.hid (HI2.out.later hbY)
            have HZ4 : Hid (((w2.alloc (.cells (itvC y) 80)).alloc (.cells (itvC y) 80)).heap.size = w2.heap.size + 2) := Lib.hid (by simp)
            have hb3 : Below w2.heap.size w2 (w2.alloc (.cells (itvC y) 80)) := (Below.refl _ _).alloc (Nat.le_refl _) _
            have y0 : (w2.alloc (.cells (itvC y) 80)).cell? ⟨w.heap.size + 1 + 1, 0, none⟩ = some (.int .i64 n) := below_keep hb3 x0
            have y1 : (w2.alloc (.cells (itvC y) 80)).cell? ⟨w.heap.size + 1 + 1, 1, none⟩ = some (.slice p out.length q) := below_keep hb3 x1
            clear hb3 x0 x1
            unfold itvC at y0 y1
            have HS2 : Hid (w.heap.size + 2 < w2.heap.size) := Lib.hid ((Array.getElem?_eq_some_iff.1 HI2.out.box).1)
            clear hbY
            go_wp2_with fail
            refine (rrIntersect_any n n (.slice p out.length q) (.slice (some ⟨w2.heap.size + 1, 0, none⟩) 1 1) out [y] ((w2.alloc (.cells (itvC y) 80)).alloc (.cells (itvC y) 80)) (HM.out.below HI4.out.below) HI4.out.set (itvs_at HY.out) (lens_ok HI4.out.one.ok) (lens_ok HOK.out) (by have := HI4.out.one.one; unfold maxLen; omega) (by unfold maxLen; simp)).mono ?_
            rintro e w5 ⟨u5, rfl, hu5, how5, hb5⟩
            have HOP := Lib.hid (V.opP_few V.andF HI4.out.one.few (V.One.few ⟨HOK.out, by simp⟩) (by omega))
            rw [HOP.out] at hu5 ⊢
            simp only at hu5 ⊢
            obtain ⟨p5, q5, rfl⟩ := hu5.slice
            have HI5 := Lib.hid (HI4.out.later hb5)
            have HU5 := Lib.hid hu5
            have HO5 := Lib.hid (fun c hc => by
              have h1 := how5 c hc
              rw [HZ4.out] at h1
              exact (show w.heap.size ≤ c ∧ c ≠ w.heap.size + 2 ∧ c ≠ w.heap.size by have := HS2.out; omega))
            have HONE := Lib.hid (HI2.out.one.and ⟨HOK.out, by simp⟩)
            have HEQ : Hid (V.altP n s = V.altGo n (V.opL n V.andF out [y]) (L.drop (k + 1))) := Lib.hid (by rw [HE.out, HST.out y HC.out])
            clear hu5 how5 hb5 y0 y1
            unfold setV
            go_wp2_with (first | (refine wl_putRow rfl 39 _ _ rfl (w.heap.size + 2) _ _ HI5.out.box rfl #[.int .i64 n, .slice p5 (V.opL n V.andF out [y]).length q5] rfl rfl (by kernel_rfl) (setC_all _ _ _ _) ?_; intro W6 hp6) | fail)
            have HI6 := Lib.hid (HI5.out.put hp6 (by omega) (by omega) (by omega) HONE.out HU5.out HO5.out)
            clear hp6
            go_roundw
            case rel => exact ⟨k + 1, _, _, by omega, by go_num, HEQ.out, HI6.out⟩
            case measure => simp [intOf]; omega
        · obtain rfl : k = L.length := by omega
          have HR : Hid (V.altP n s = some out) := Lib.hid (by rw [HE.out, List.drop_length]; rfl)
          go_wp2_with (first | (refine wl_putRow rfl 39 _ _ rfl w.heap.size #[.int .i64 0, .slice none 0 0] _ HI.out.res rfl #[.int .i64 n, .slice p out.length q] rfl rfl (by kernel_rfl) (setC_all _ _ _ _) ?_; intro W5 hp5; have z0 : W5.cell? ⟨w.heap.size, 0, none⟩ = some (.int .i64 n) := Lib.cell_of_heap hp5.here 0; have z1 : W5.cell? ⟨w.heap.size, 1, none⟩ = some (.slice p out.length q) := Lib.cell_of_heap hp5.here 1) | fail)
          have HBF := Lib.hid (hp5.below HI.out.below (Nat.le_refl _))
          have HIV := Lib.hid (hp5.itvs HI.out.set (fun c hc => (HI.out.own c hc).2.2))
          clear hp5
          exact bodyPost_ret (v := .tuple #[.agg #[.int .i64 n, .slice p out.length q], .bool true]) (by simp [results, Tryz.results40, go_sem, z0, z1]) rfl (AltPost.yes HR.out HBF.out HIV.out (fun c hc => (HI.out.own c hc).1))
end Go.Proofs.YtpjjkbdkgaehkaaGreatDoor
namespace Go.Proofs.YtpjjkbdkgaehkaaGreatDoor
open Go.RowKit

namespace V
/-- what Parse returns -/
def parP (n : Int) (s : Bs) : Int × List Itv × Int := match rgParse n s with | (some l, c) => (n, l, c) | (none, c) => (0, [], c)
theorem parP_scheme {n : Int} {s : Bs} (h : scheme n = false) : parP n s = (0, [], 14) := by unfold parP rgParse; rw [h]; rfl
theorem parP_long {n : Int} {s : Bs} (h : scheme n = true) (hl : ¬ s.length ≤ 8192) : parP n s = (0, [], 3) := by unfold parP rgParse; rw [if_pos h, if_neg hl]
theorem parP_alts {n : Int} {s : Bs} (h : scheme n = true) (hl : s.length ≤ 8192) (ha : altsP n (Lib.split s orT) = none) : parP n s = (0, [], 2) := by unfold parP rgParse; rw [if_pos h, if_pos hl, ha]
theorem parP_union {n : Int} {s : Bs} {xs : List (List Itv)} (h : scheme n = true) (hl : s.length ≤ 8192) (ha : altsP n (Lib.split s orT) = some xs) (hu : unionGo n [] xs = none) : parP n s = (0, [], 3) := by
  unfold parP rgParse; rw [if_pos h, if_pos hl, ha]; simp only [hu]
theorem parP_ok {n : Int} {s : Bs} {xs : List (List Itv)} {l : List Itv} (h : scheme n = true) (hl : s.length ≤ 8192) (ha : altsP n (Lib.split s orT) = some xs) (hu : unionGo n [] xs = some l) : parP n s = (n, l, 0) := by
  unfold parP rgParse; rw [if_pos h, if_pos hl, ha]; simp only [hu]
/-- the alternatives up to the k-th are the sets xs -/
def altsTo (n : Int) (P : List Bs) (k : Nat) (xs : List (List Itv)) : Prop := altsP n P = match altsP n (P.drop k) with | none => none | some ys => some (xs ++ ys)
theorem altsTo_zero (n : Int) (P : List Bs) : altsTo n P 0 [] := by
  unfold altsTo
  rw [List.drop_zero]
  cases altsP n P <;> rfl
theorem altsTo_none {n : Int} {P : List Bs} {k : Nat} {xs : List (List Itv)} (h : altsTo n P k xs) (hk : k < P.length) (ha : altP n P[k] = none) : altsP n P = none := by
  unfold altsTo at h
  rw [h, List.drop_eq_getElem_cons hk, altsP, ha]
theorem altsTo_step {n : Int} {P : List Bs} {k : Nat} {xs : List (List Itv)} {x : List Itv} (h : altsTo n P k xs) (hk : k < P.length) (ha : altP n P[k] = some x) : altsTo n P (k + 1) (xs ++ [x]) := by
  unfold altsTo at h ⊢
  rw [h, List.drop_eq_getElem_cons hk, altsP, ha]
  cases altsP n (P.drop (k + 1)) with
  | none => rfl
  | some ys => simp
theorem altsTo_end {n : Int} {P : List Bs} {xs : List (List Itv)} (h : altsTo n P P.length xs) : altsP n P = some xs := by
  unfold altsTo at h
  rw [h, List.drop_length]
  simp [altsP]
theorem union_next {n : Int} {acc : List Itv} {xs : List (List Itv)} {k : Nat} (hk : k < xs.length) : unionGo n acc (xs.drop k) = if (opL n orF acc xs[k]).length ≤ 32 then unionGo n (opL n orF acc xs[k]) (xs.drop (k + 1)) else none := by
  rw [List.drop_eq_getElem_cons hk, unionGo]
end V

/-! splits -/
theorem splitor_any (s : ByteArray) (w : World) (hm : MaxOk w) (hs : s.size < 4294967281) :
    Calls Tryz.prog 39 #[.string s, .string ⟨#[32, 124, 124, 32]⟩] w fun e w' =>
      e = .returned (.slice (some ⟨w.heap.size, 0, none⟩) (Lib.split s.data.toList V.orT).length (Lib.split s.data.toList V.orT).length) ∧ w' = w.alloc (.cells (strCells (Lib.split s.data.toList V.orT)) 9) := by
  obtain ⟨m, hm⟩ := hm
  have hsp : (Lib.splitB ⟨#[32, 124, 124, 32]⟩ 0 (Lib.countB s ⟨#[32, 124, 124, 32]⟩) s).map (·.data.toList) = Lib.split s.data.toList V.orT := by
    rw [Lib.splitB_data]; rfl
  have hlen := Lib.splitB_all ⟨#[32, 124, 124, 32]⟩ (by decide) 0 _ s rfl
  have hl : (Lib.split s.data.toList V.orT).length = Lib.countB s ⟨#[32, 124, 124, 32]⟩ + 1 := by rw [← hsp, List.length_map, hlen]
  have hcs : strCells (Lib.split s.data.toList V.orT) = ((Lib.splitB ⟨#[32, 124, 124, 32]⟩ 0 (Lib.countB s ⟨#[32, 124, 124, 32]⟩) s).map Value.string).toArray := by
    unfold strCells
    rw [← hsp, List.map_map]
    congr 1
  refine (Tryz.strings_Split s ⟨#[32, 124, 124, 32]⟩ m w hs hm (by decide)).mono ?_
  rintro e w' ⟨rfl, rfl⟩
  rw [hl, hcs]
  exact ⟨rfl, rfl⟩
theorem split_mem (sep : V.Bs) : ∀ (k : Nat) (s x : V.Bs), x ∈ Lib.splitK sep 0 k s → x.length ≤ s.length
  | 0, s, x, h => by rw [Lib.splitK, List.mem_singleton] at h; rw [h]; exact Nat.le_refl _
  | k + 1, s, x, h => by
    rw [Lib.splitK] at h
    split at h
    · rw [List.mem_singleton] at h; rw [h]; exact Nat.le_refl _
    · rcases List.mem_cons.1 h with rfl | h
      · rw [List.length_take]; omega
      · have := split_mem sep k _ x h
        rw [List.length_drop] at this
        omega
theorem splitK_len (sep : V.Bs) : ∀ (k : Nat) (s : V.Bs), (Lib.splitK sep 0 k s).length ≤ k + 1
  | 0, s => by rw [Lib.splitK]; simp
  | k + 1, s => by
    rw [Lib.splitK]
    split
    · simp
    · have := splitK_len sep k (s.drop ((Lib.index s sep).toNat + sep.length))
      rw [List.length_cons]
      omega
theorem splitor_len (s : V.Bs) : (Lib.split s V.orT).length ≤ s.length + 2 := by
  unfold Lib.split
  have h1 := splitK_len V.orT (Lib.count s V.orT) s
  have h2 := Lib.count_le s V.orT
  omega

/-! appends that tell whose block the new slice is -/
theorem wl_appendGA {α : Type} {enc : α → List Value} {k : Nat} {T : TypeId} {ops : Array Oper} {rest : List Oper} {o : Oper} {a : Act} {w : World} {Q : Exit → Act → World → Prop} (hk : ∀ x, (enc x).length = k) (hk0 : 0 < k) (h1c : ∀ x, ∀ u ∈ enc x, u.oneCell' = true) {bytes : Nat} (hi : GInfo T k bytes) (hby : bytes ≤ 1000) (hgd : o.guard = none) (s x : Operand) (S : TypeId)
    (ho : o.op = .call { callee := .builtin .append, args := #[s, x], argTypes := #[S, S] }) (hu : Tryz.prog.underlying S = some (.slice T))
    (N : Nat) (v : Value) (l : List α) (hs : a.eval s = v) (hown : GRow T k enc w N v l) (b : Nat) (c : α) (hx : a.eval x = .slice (some ⟨b, 0, none⟩) 1 1) (hr : ∀ j u, (enc c)[j]? = some u → w.cell? ⟨b, j, none⟩ = some u) (hl : l.length ≤ 1000000) (hN : N ≤ w.heap.size)
    (h : ∀ v' w', GRow T k enc w' N v' (l ++ [c]) → w.grownBy w' v.ownBlock → (v'.ownBlock = v.ownBlock ∨ v'.ownBlock = some w.heap.size) → wpList Tryz.prog ops Q rest (a.put o.dst v') w') : wpList Tryz.prog ops Q (o :: rest) a w := by
  obtain ⟨ie, z, hie, hz, h1, h2, h3⟩ := hi
  refine wpList_append_own_at w hgd s x S ho N T ie z k bytes hu hie hz h1 h2 h3 hk0 v l.length (l.flatMap enc) hs hown ⟨b, 0, none⟩ 1 1 (enc c) hx (by rw [hk]; omega) ?_ (h1c c) (by unfold maxLen; omega) ?_ hN ?_
  · intro j u hj
    rw [Addr.add_mid, Nat.zero_add]
    exact hr j u hj
  · have : (l.length + 1) * bytes ≤ 1000001 * 1000 := Nat.mul_le_mul (by omega) hby
    omega
  · intro v' w' ho' hg _ hob
    refine h v' w' ?_ hg hob
    unfold GRow
    rw [List.length_append, List.flatMap_append]
    simpa using ho'

/-! rows of range sets -/
theorem setInfo : GInfo 39 2 32 := by
  have h : (match Tryz.prog.info? 39 with | some i => i.size == 2 && (i.bytes == 32 && (match i.zero with | some z => z.cells.size == 2 | none => false)) | none => false) = true := by kernel_rfl
  unfold GInfo
  cases hq : Tryz.prog.info? 39 with
  | none => rw [hq] at h; cases h
  | some i =>
    rw [hq] at h
    simp only [Bool.and_eq_true, beq_iff_eq] at h
    obtain ⟨h1, h2, h3⟩ := h
    cases hz : i.zero with
    | none => rw [hz] at h3; cases h3
    | some z =>
      rw [hz] at h3
      exact ⟨i, z, rfl, hz, h1, h2, by simpa using h3⟩
/-- a slice value -/
structure Sl where
  a : Option Addr
  n : Nat
  c : Nat
def Sl.v (s : Sl) : Value := .slice s.a s.n s.c
def slE (n : Int) (s : Sl) : List Value := [.int .i64 n, s.v]
theorem slE_len (n : Int) (s : Sl) : (slE n s).length = 2 := rfl
theorem slE_one (n : Int) (s : Sl) : ∀ u ∈ slE n s, u.oneCell' = true := by
  intro u hu
  simp [slE] at hu
  rcases hu with rfl | rfl <;> rfl
theorem Itvs.lt {w : World} {u : Value} {l : List V.Itv} (h : Itvs w u l) (hl : l ≠ []) {c : Nat} (hc : u.ownBlock = some c) : c < w.heap.size := by
  obtain ⟨a, cap, rfl, hx⟩ := h
  obtain ⟨b, off, rfl, hlt, _⟩ := hx 0 (List.length_pos_iff.2 hl)
  simp [Value.ownBlock] at hc
  omega
theorem Itvs.grown {w w' : World} {u : Value} {l : List V.Itv} {row : Option Nat} (h : Itvs w u l) (hg : w.grownBy w' row) (hs : l ≠ [] → ∀ c, u.ownBlock = some c → row ≠ some c) : Itvs w' u l := by
  obtain ⟨a, cap, rfl, hx⟩ := h
  refine ⟨a, cap, rfl, fun j hj => ?_⟩
  obtain ⟨b, off, rfl, hlt, h0, h1, h2, h3⟩ := hx j hj
  have hne : l ≠ [] := fun e => by rw [e] at hj; simp at hj
  have hb : row ≠ some b := hs hne b rfl
  have hk := fun o v (g : w.cell? ⟨b, o, none⟩ = some v) => hg.cell g (fun e => hb e.symm)
  exact ⟨b, off, rfl, Nat.lt_of_lt_of_le hlt hg.size, hk _ _ h0, hk _ _ h1, hk _ _ h2, hk _ _ h3⟩
/-- a row of sets of the scheme n: the slices us, the intervals xs -/
structure SetRow (n : Int) (N : Nat) (w : World) (v : Value) (us : List Sl) (xs : List (List V.Itv)) : Prop where
  row : GRow 39 2 (slE n) w N v us
  len : us.length = xs.length
  each : ∀ j (h : j < us.length) (h' : j < xs.length), Itvs w us[j].v xs[j] ∧ (xs[j] ≠ [] → ∀ c, us[j].v.ownBlock = some c → v.ownBlock ≠ some c)
theorem SetRow.nil (n : Int) (N : Nat) (w : World) : SetRow n N w (.slice none 0 0) [] [] := ⟨GRow.nil _ _, rfl, fun j h => by simp at h⟩
theorem SetRow.later {n : Int} {N : Nat} {w w' : World} {v : Value} {us : List Sl} {xs : List (List V.Itv)} (h : SetRow n N w v us xs) (hb : Below w.heap.size w w') : SetRow n N w' v us xs :=
  ⟨GRow.below h.row hb, h.len, fun j hj hj' => ⟨(h.each j hj hj').1.below hb, (h.each j hj hj').2⟩⟩
theorem SetRow.add {n : Int} {N : Nat} {w w' : World} {v v' : Value} {us : List Sl} {xs : List (List V.Itv)} {u : Sl} {x : List V.Itv} (h : SetRow n N w v us xs) (hr : GRow 39 2 (slE n) w' N v' (us ++ [u])) (hg : w.grownBy w' v.ownBlock) (ho : v'.ownBlock = v.ownBlock ∨ v'.ownBlock = some w.heap.size)
    (hu : Itvs w u.v x) (hs : x ≠ [] → ∀ c, u.v.ownBlock = some c → v.ownBlock ≠ some c) : SetRow n N w' v' (us ++ [u]) (xs ++ [x]) := by
  have one : ∀ (q : Value) (y : List V.Itv), Itvs w q y → (y ≠ [] → ∀ c, q.ownBlock = some c → v.ownBlock ≠ some c) → Itvs w' q y ∧ (y ≠ [] → ∀ c, q.ownBlock = some c → v'.ownBlock ≠ some c) := fun q y hq hn => by
    refine ⟨hq.grown hg hn, fun hy c hc => ?_⟩
    rcases ho with e | e
    · rw [e]; exact hn hy c hc
    · rw [e]
      intro g
      have := hq.lt hy hc
      cases g
      omega
  refine ⟨hr, by rw [List.length_append, List.length_append, h.len]; rfl, fun j hj hj' => ?_⟩
  by_cases e : j < us.length
  · have e2 : j < xs.length := by rw [← h.len]; exact e
    rw [List.getElem_append_left e, List.getElem_append_left e2]
    exact one _ _ (h.each j e e2).1 (h.each j e e2).2
  · have ej : j = us.length := by rw [List.length_append, List.length_singleton] at hj; omega
    subst ej
    have e1 : (us ++ [u])[us.length] = u := by simp
    have e2 : (xs ++ [x])[us.length]'hj' = x := by simp [h.len]
    rw [e1, e2]
    exact one _ _ hu hs

/-! slices.Clone -/
end Go.Proofs.YtpjjkbdkgaehkaaGreatDoor
