/-
  Lemmas for the law.
-/
import Derived.Test.YtbikeahmldobkaaGreatDoorC51x23
import Derived.Test.YtbikeahmldobkaaGreatDoorC51x21
import Derived.Test.YtbikeahmldobkaaGreatDoorC51x04
import Derived.Test.YtbikeahmldobkaaGreatDoorC51x22
import Derived.Test.YtbikeahmldobkaaGreatDoorC51x18
import Derived.BigRegion
import Derived.Deep.DeepCutAuto
import Derived.Lib.AppendStr
set_option linter.all false
set_option maxRecDepth 100000
set_option maxHeartbeats 6400000
namespace Go.Proofs.YtbikeahmldobkaaGreatDoor
open Go.RowKit
theorem zrk (x n : Int) (h0 : 0 ≤ n) (h1 : n ≤ 32) : ∃ y : Int, ∀ w, Calls Tryz.prog 192 #[.int .u32 x, .int .i64 n] w fun e w' => e = .returned (.int .u32 y) /\ w' = w := by
 apply Exists.intro
 intro w
 have h2 : (0 : Int) ≤ 32 - n := by omega
 go_enter Tryz.func192, Tryz.ntmps192
 go_wp2
 go_ret
 exact ⟨rfl, rfl⟩
noncomputable def rotF (x n : Int) : Int := if h : 0 ≤ n /\ n ≤ 32 then (zrk x n h.1 h.2).choose else 0
theorem ze9 (x n : Int) (w : World) (h : 0 ≤ n /\ n ≤ 32) : Calls Tryz.prog 192 #[.int .u32 x, .int .i64 n] w fun e w' => e = .returned (.int .u32 (rotF x n)) /\ w' = w := by
 have e : rotF x n = (zrk x n h.1 h.2).choose := by unfold rotF; rw [dif_pos h]
 rw [e]
 exact (zrk x n h.1 h.2).choose_spec w
def u32c (l : List Int) : Array Value := (l.map fun n => Value.int .u32 n).toArray
theorem kz {w : World} {g k : Nat} {l : List Int} {T : TypeId} {fr : Nat × Nat} (h : w.heap[g]? = some (.cells (u32c l) T fr)) (hk : k < l.length) : w.cell? ⟨g, k, none⟩ = some (.int .u32 (l.getD k 0)) := by
 unfold World.cell?
 rw [h]
 simp [u32c, hk]
theorem zjm (l : List Int) (k : Nat) (x : Int) : (u32c l).setIfInBounds k (.int .u32 x) = u32c (l.set k x) := by
 unfold u32c
 rw [List.setIfInBounds_toArray, List.map_set]
def z64 : List Int := List.replicate 64 0
def kC : List Int := [1116352408, 1899447441, 3049323471, 3921009573, 961987163, 1508970993, 2453635748, 2870763221, 3624381080, 310598401, 607225278, 1426881987, 1925078388, 2162078206, 2614888103, 3248222580, 3835390401, 4022224774, 264347078, 604807628, 770255983, 1249150122, 1555081692, 1996064986, 2554220882, 2821834349, 2952996808, 3210313671, 3336571891, 3584528711, 113926993, 338241895, 666307205, 773529912, 1294757372, 1396182291, 1695183700, 1986661051, 2177026350, 2456956037, 2730485921, 2820302411, 3259730800, 3345764771, 3516065817, 3600352804, 4094571909, 275423344, 430227734, 506948616, 659060556, 883997877, 958139571, 1322822218, 1537002063, 1747873779, 1955562222, 2024104815, 2227730452, 2361852424, 2428436474, 2756734187, 3204031479, 3329325298]
theorem a64_info : (Tryz.prog.info? 223).map (·.size) = some 64 := by kernel_rfl
theorem load64 {l : List Int} (hl : l.length = 64) {w : World} {g : Nat} {t : TypeId} (hg : w.heap[g]? = some (.cells (u32c l) t (0, 0))) : (loadVar 223 ⟨g, 0, none⟩).run Tryz.prog w = .ok (.agg (u32c l)) w :=
 run_loadVar_row _ _ _ _ _ (0, 0) _ hg Tryz.underlying223 rfl (by rw [a64_info]; simp [u32c, hl])
theorem zkq (w : World) : Calls Tryz.prog 193 #[] w fun e w' => e = .returned (.agg (u32c kC)) /\ Below w.heap.size w w' := by
 have g0 : Below w.heap.size w (w.alloc (.cells (u32c z64) 223)) := (zvb _ w).alloc (zva _) _
 go_enter Tryz.func193, Tryz.ntmps193
 go_wp2_with (first | (refine zv rfl 223 _ _ rfl w.heap.size (u32c z64) 223 (heap_alloc_new w _) rfl (u32c kC) rfl rfl (by kernel_rfl) (by kernel_rfl) ?_; intro W2 hp2) | fail)
 exact bodyPost_ret (v := .agg (u32c kC)) (qp Tryz.results193 rfl (load64 rfl hp2.here)) rfl ⟨rfl, hp2.below g0 (zva _)⟩
theorem zh6 {w w' : World} {row : Option Nat} (h : w.grownBy w' row) : w.grownBy w'.drew row := ⟨h.os, h.tape, h.output, h.size, h.block⟩
theorem list8 {l : List Int} (h : l.length = 8) : ∃ b0 b1 b2 b3 b4 b5 b6 b7, l = [b0, b1, b2, b3, b4, b5, b6, b7] := by
 match l, h with
 | [b0, b1, b2, b3, b4, b5, b6, b7], _ => exact ⟨b0, b1, b2, b3, b4, b5, b6, b7, rfl⟩
theorem load8 {c0 c1 c2 c3 c4 c5 c6 c7 : Value} {w : World} {g : Nat} {t : TypeId} (hg : w.heap[g]? = some (.cells #[c0, c1, c2, c3, c4, c5, c6, c7] t (0, 0))) : (loadVar 200 ⟨g, 0, none⟩).run Tryz.prog w = .ok (.agg #[c0, c1, c2, c3, c4, c5, c6, c7]) w :=
 run_loadVar_row _ _ _ _ _ (0, 0) _ hg Tryz.underlying200 rfl (by kernel_rfl)
theorem ztn (a0 a1 a2 a3 a4 a5 a6 a7 : Int) (b off cap : Nat) (w : World) (hp : ∀ j, j < 64 -> ∃ x : Int, w.cell? ⟨b, off + j, none⟩ = some (.int .u8 x)) (hb : b < w.heap.size) (v5 : 64 ≤ cap) :
  Calls Tryz.prog 167 #[.agg #[.int .u32 a0, .int .u32 a1, .int .u32 a2, .int .u32 a3, .int .u32 a4, .int .u32 a5, .int .u32 a6, .int .u32 a7], .slice (some ⟨b, off, none⟩) 64 cap] w
   fun e w' => (∃ b0 b1 b2 b3 b4 b5 b6 b7 : Int, e = .returned (.agg #[.int .u32 b0, .int .u32 b1, .int .u32 b2, .int .u32 b3, .int .u32 b4, .int .u32 b5, .int .u32 b6, .int .u32 b7])) /\ Below w.heap.size w w' := by
 have HP := zu8 hp
 have j8 := zu8 hb
 obtain ⟨W0, hW0⟩ : ∃ W0, W0 = ((w.alloc (.cells #[.int .u32 a0, .int .u32 a1, .int .u32 a2, .int .u32 a3, .int .u32 a4, .int .u32 a5, .int .u32 a6, .int .u32 a7] 200)).alloc (.cells #[.int .u32 0, .int .u32 0, .int .u32 0, .int .u32 0, .int .u32 0, .int .u32 0, .int .u32 0, .int .u32 0] 200)).alloc (.cells #[.int .u32 0, .int .u32 0, .int .u32 0, .int .u32 0, .int .u32 0, .int .u32 0, .int .u32 0, .int .u32 0, .int .u32 0, .int .u32 0, .int .u32 0, .int .u32 0, .int .u32 0, .int .u32 0, .int .u32 0, .int .u32 0, .int .u32 0, .int .u32 0, .int .u32 0, .int .u32 0, .int .u32 0, .int .u32 0, .int .u32 0, .int .u32 0, .int .u32 0, .int .u32 0, .int .u32 0, .int .u32 0, .int .u32 0, .int .u32 0, .int .u32 0, .int .u32 0, .int .u32 0, .int .u32 0, .int .u32 0, .int .u32 0, .int .u32 0, .int .u32 0, .int .u32 0, .int .u32 0, .int .u32 0, .int .u32 0, .int .u32 0, .int .u32 0, .int .u32 0, .int .u32 0, .int .u32 0, .int .u32 0, .int .u32 0, .int .u32 0, .int .u32 0, .int .u32 0, .int .u32 0, .int .u32 0, .int .u32 0, .int .u32 0, .int .u32 0, .int .u32 0, .int .u32 0, .int .u32 0, .int .u32 0, .int .u32 0, .int .u32 0, .int .u32 0] 223) := ⟨_, rfl⟩
 have j9 : Below w.heap.size w W0 := by rw [hW0]; exact (((zvb _ w).alloc (zva _) _).alloc (by simp) _).alloc (by simp; omega) _
 have K0 : W0.heap[w.heap.size]? = some (.cells #[.int .u32 a0, .int .u32 a1, .int .u32 a2, .int .u32 a3, .int .u32 a4, .int .u32 a5, .int .u32 a6, .int .u32 a7] 200 (0, 0)) := by
  rw [hW0, heap_alloc, if_neg (by simp; omega), heap_alloc, if_neg (by simp), heap_alloc, if_pos rfl]
 have K1 : W0.heap[w.heap.size + 1]? = some (.cells #[.int .u32 0, .int .u32 0, .int .u32 0, .int .u32 0, .int .u32 0, .int .u32 0, .int .u32 0, .int .u32 0] 200 (0, 0)) := by
  rw [hW0, heap_alloc, if_neg (by simp), heap_alloc, if_pos (by simp)]
 have K2 : W0.heap[w.heap.size + 1 + 1]? = some (.cells (u32c z64) 223 (0, 0)) := by
  rw [hW0, heap_alloc, if_pos (by simp)]
  rfl
 have HW := zu8 hW0
 have HB0 := zu8 j9
 have HK := zu8 (And.intro K0 K1)
 have v1 := zu8 K2
 have HZ0 : Hid (w.heap.size + 1 + 1 + 1 = W0.heap.size) := zu8 (by rw [hW0]; simp)
 clear hp hb hW0 j9 K0 K1 K2
 go_enter Tryz.func167, Tryz.ntmps167
 go_wp2_with fail
 rw [← HW.out]
 go_loopw [6] (fun iv wx => ∃ (i : Nat) (l : List Int), i ≤ 16 /\ iv = .int .i64 i /\ l.length = 64 /\ wx.heap[w.heap.size + 1 + 1]? = some (.cells (u32c l) 223 (0, 0)) /\ Below (w.heap.size + 1 + 1) W0 wx) (fun iv _ => 16 - (intOf iv).toNat)
 case atStart => exact ⟨0, z64, by omega, rfl, rfl, v1.out, zvb _ _⟩
 case round =>
  obtain ⟨i, l, hi, rfl, hl, hx, g5⟩ := hrel
  have HX := zu8 hx
  have HBX := zu8 g5
  have HL := zu8 hl
  clear hx g5 hl
  by_cases hlt : i < 16
  ·have g6 : ∀ j, j < 64 -> ∃ x : Int, wr.cell? ⟨b, off + j, none⟩ = some (.int .u8 x) := fun j hj => by
    obtain ⟨x, hc⟩ := HP.out j hj
    exact ⟨x, (HBX.out.cell (p := ⟨b, off + j, none⟩) (by have := j8.out; show b < _; omega)).trans ((HB0.out.cell (p := ⟨b, off + j, none⟩) j8.out).trans hc)⟩
   obtain ⟨x0, c0⟩ := g6 (4 * i) (by omega)
   obtain ⟨x1, c1⟩ := g6 (4 * i + 1) (by omega)
   obtain ⟨x2, c2⟩ := g6 (4 * i + 2) (by omega)
   obtain ⟨x3, c3⟩ := g6 (4 * i + 3) (by omega)
   have cx := kz HX.out (k := i) (by rw [HL.out]; omega)
   have hf := qw (o := i) HX.out
   clear g6
   go_wp2_with fail
   go_region
   rename_i hK
   refine hK _ _ ?_
   clear hK c0 c1 c2 c3 cx
   go_wp2
   go_roundw
   case rel => exact ⟨i + 1, _, by omega, by go_num, (List.length_set ..).trans HL.out, (kj i _ HX.out).trans (by rw [zjm]), (Below.grown (row := some (w.heap.size + 1 + 1)) HBX.out (qv _ _ _ _) (by have := HZ0.out; have := HBX.out.size; omega) (fun c e => by cases e; omega)).drew⟩
   case measure => simp [intOf]; omega
  ·obtain rfl : i = 16 := by omega
   go_wp2_with fail
   go_loopw [7] (fun iv wx => ∃ (i : Nat) (l : List Int), 16 ≤ i /\ i ≤ 64 /\ iv = .int .i64 i /\ l.length = 64 /\ wx.heap[w.heap.size + 1 + 1]? = some (.cells (u32c l) 223 (0, 0)) /\ Below (w.heap.size + 1 + 1) W0 wx) (fun iv _ => 64 - (intOf iv).toNat)
   case atStart => exact ⟨16, l, by omega, by omega, rfl, HL.out, HX.out, HBX.out⟩
   case round =>
    clear HX HBX HL
    obtain ⟨i, l, v6, hi, rfl, hl, hx, g5⟩ := hrel
    have HX := zu8 hx
    have HBX := zu8 g5
    have HL := zu8 hl
    clear hx g5 hl
    by_cases hlt : i < 64
    ·obtain ⟨j1, k0⟩ : ∃ j : Nat, (i : Int) - 15 = (j : Int) /\ j < 64 := ⟨i - 15, by omega, by omega⟩
     obtain ⟨j2, k1⟩ : ∃ j : Nat, (i : Int) - 2 = (j : Int) /\ j < 64 := ⟨i - 2, by omega, by omega⟩
     obtain ⟨j3, k2⟩ : ∃ j : Nat, (i : Int) - 16 = (j : Int) /\ j < 64 := ⟨i - 16, by omega, by omega⟩
     obtain ⟨j4, k3⟩ : ∃ j : Nat, (i : Int) - 7 = (j : Int) /\ j < 64 := ⟨i - 7, by omega, by omega⟩
     have d1 := kz HX.out (k := j1) (by rw [HL.out]; exact k0.2)
     have d2 := kz HX.out (k := j2) (by rw [HL.out]; exact k1.2)
     have d3 := kz HX.out (k := j3) (by rw [HL.out]; exact k2.2)
     have d4 := kz HX.out (k := j4) (by rw [HL.out]; exact k3.2)
     have cx := kz HX.out (k := i) (by rw [HL.out]; omega)
     have hf := qw (o := i) HX.out
     obtain ⟨e1, b1⟩ := k0
     obtain ⟨e2, b2⟩ := k1
     obtain ⟨e3, b3⟩ := k2
     obtain ⟨e4, b4⟩ := k3
     go_wp2_with fail
     go_quiet ((go_at_call 192; exact Calls.quiet_of_same (ze9 _ _ _ (by decide))))
     have HX2 : Hid ((wr.drewN nq).heap[w.heap.size + 1 + 1]? = some (.cells (u32c l) 223 (0, 0))) := zu8 HX.out
     have g9 := zu8 (below_drewN HBX.out nq)
     clear d1 d2 d3 d4 cx hf HX HBX
     generalize wr.drewN nq = W1 at *
     clear nq
     have d2 := kz HX2.out (k := j2) (by rw [HL.out]; exact b2)
     go_wp2_with fail
     go_quiet ((go_at_call 192; exact Calls.quiet_of_same (ze9 _ _ _ (by decide))))
     have g7 : Hid ((W1.drewN nq).heap[w.heap.size + 1 + 1]? = some (.cells (u32c l) 223 (0, 0))) := zu8 HX2.out
     have h0 := zu8 (below_drewN g9.out nq)
     clear d2 HX2 g9
     generalize W1.drewN nq = W2 at *
     clear nq
     have d3 := kz g7.out (k := j3) (by rw [HL.out]; exact b3)
     have d4 := kz g7.out (k := j4) (by rw [HL.out]; exact b4)
     have cx := kz g7.out (k := i) (by rw [HL.out]; omega)
     have hf := qw (o := i) g7.out
     go_wp2_with fail
     go_region
     rename_i hK
     refine hK _ _ ?_
     clear hK d3 d4 cx e1 e2 e3 e4
     go_wp2
     go_roundw
     case rel => exact ⟨i + 1, _, by omega, by omega, by go_num, (List.length_set ..).trans HL.out, (kj i _ g7.out).trans (by rw [zjm]), (Below.grown (row := some (w.heap.size + 1 + 1)) h0.out (qv _ _ _ _) (by have := HZ0.out; have := h0.out.size; omega) (fun c e => by cases e; omega)).drew⟩
     case measure => simp [intOf]; omega
    ·obtain rfl : i = 64 := by omega
     have HB5 : Hid (Below w.heap.size w wr) := zu8 (HB0.out.trans (HBX.out.mono (by omega)))
     have h4 := zu8 ((HBX.out.block w.heap.size (by omega)).trans HK.out.1)
     have h5 := zu8 ((HBX.out.block (w.heap.size + 1) (by omega)).trans HK.out.2)
     clear HBX
     go_wp2_with fail
     refine (zkq wr).mono ?_
     rintro e w5 ⟨rfl, hb5⟩
     have HB6 := zu9 HB5 hb5
     have h6 := (Array.getElem?_eq_some_iff.1 HX.out).1
     have k4 := zu8 ((hb5.block _ h6).trans HX.out)
     have k5 := zu8 ((hb5.block _ (Array.getElem?_eq_some_iff.1 h4.out).1).trans h4.out)
     have k6 := zu8 ((hb5.block _ (Array.getElem?_eq_some_iff.1 h5.out).1).trans h5.out)
     have g1 : Hid (w.heap.size + 1 + 1 < w5.heap.size) := zu8 (Nat.lt_of_lt_of_le h6 hb5.size)
     have k7 : Below w5.heap.size w5 (w5.alloc (.cells (u32c z64) 223)) := (zvb _ w5).alloc (zva _) _
     have g8 := zu8 k7
     clear hb5 k7 h6 HB5 HX h4 h5
     go_wp2_with (first | (refine zv rfl 223 _ _ rfl w5.heap.size (u32c z64) 223 (heap_alloc_new w5 _) rfl (u32c kC) rfl rfl (by kernel_rfl) (by kernel_rfl) ?_; intro W6 hp6; have hA := hp6.other ((g8.out.block _ (by have := g1.out; omega)).trans k5.out) (by have := g1.out; omega); have x0 := zu7 hA 0; have x1 := zu7 hA 1; have x2 := zu7 hA 2; have x3 := zu7 hA 3; have x4 := zu7 hA 4; have x5 := zu7 hA 5; have x6 := zu7 hA 6; have x7 := zu7 hA 7; simp only [List.getElem?_toArray, List.getElem?_cons_zero, List.getElem?_cons_succ] at x0 x1 x2 x3 x4 x5 x6 x7) | fail)
     have k8 := zu8 hp6.here
     have k9 := zu8 (hp6.other ((g8.out.block _ g1.out).trans k4.out) (by have := g1.out; omega))
     have q0 := zu8 hA
     have q1 := zu8 (hp6.other ((g8.out.block _ (by have := g1.out; omega)).trans k6.out) (by have := g1.out; omega))
     have HB7 := zu8 (HB6.out.trans ((hp6.below g8.out (zva _)).mono HB6.out.size))
     have q2 := (Array.getElem?_eq_some_iff.1 hp6.here).1
     have q3 : Below W6.heap.size W6 (W6.alloc (.cells #[.int .u32 a0, .int .u32 a1, .int .u32 a2, .int .u32 a3, .int .u32 a4, .int .u32 a5, .int .u32 a6, .int .u32 a7] 200)) := (zvb _ W6).alloc (zva _) _
     have h7 : Hid ((W6.alloc (.cells #[.int .u32 a0, .int .u32 a1, .int .u32 a2, .int .u32 a3, .int .u32 a4, .int .u32 a5, .int .u32 a6, .int .u32 a7] 200)).heap[W6.heap.size]? = some (.cells #[.int .u32 a0, .int .u32 a1, .int .u32 a2, .int .u32 a3, .int .u32 a4, .int .u32 a5, .int .u32 a6, .int .u32 a7] 200 (0, 0))) := zu8 (heap_alloc_new _ _)
     have g3 := zu8 q3
     have g4 := zu8 q2
     clear hp6 hA x0 x1 x2 x3 x4 x5 x6 x7 g8 k4 k5 k6 HB6 q3 q2
     generalize w5.heap.size = Kb at *
     generalize W6.alloc (.cells #[.int .u32 a0, .int .u32 a1, .int .u32 a2, .int .u32 a3, .int .u32 a4, .int .u32 a5, .int .u32 a6, .int .u32 a7] 200) = W7 at *
     obtain ⟨S, hS⟩ : ∃ S, S = W6.heap.size := ⟨_, rfl⟩
     have v7 := zu8 hS
     rw [← hS] at h7 g3 g4 ⊢
     clear hS
     go_loopw [12] (fun iv wx => ∃ (i : Nat) (s0 s1 s2 s3 s4 s5 s6 s7 : Int), i ≤ 64 /\ iv = .int .i64 i /\ wx.heap[S]? = some (.cells #[.int .u32 s0, .int .u32 s1, .int .u32 s2, .int .u32 s3, .int .u32 s4, .int .u32 s5, .int .u32 s6, .int .u32 s7] 200 (0, 0)) /\ Below S W7 wx) (fun iv _ => 64 - (intOf iv).toNat)
     case atStart => exact ⟨0, a0, a1, a2, a3, a4, a5, a6, a7, by omega, rfl, h7.out, zvb _ _⟩
     case round =>
      clear h7
      obtain ⟨i, s0, s1, s2, s3, s4, s5, s6, s7, hi, rfl, hs, q4⟩ := hrel
      have g0 := zu8 hs
      have HBS := zu8 q4
      clear hs q4
      by_cases hlt : i < 64
      case neg =>
       obtain rfl : i = 64 := by omega
       have v2 : Hid (wr.heap[w.heap.size]? = some (.cells #[.int .u32 a0, .int .u32 a1, .int .u32 a2, .int .u32 a3, .int .u32 a4, .int .u32 a5, .int .u32 a6, .int .u32 a7] 200 (0, 0))) := zu8 (by
         have h1 := g4.out
         have h2 := g1.out
         exact (HBS.out.block _ (by omega)).trans ((g3.out.block _ (by omega)).trans q0.out))
       have HRE : Hid (wr.heap[w.heap.size + 1]? = some (.cells #[.int .u32 0, .int .u32 0, .int .u32 0, .int .u32 0, .int .u32 0, .int .u32 0, .int .u32 0, .int .u32 0] 200 (0, 0))) := zu8 (by
         have h1 := g4.out
         have h2 := g1.out
         exact (HBS.out.block _ (by omega)).trans ((g3.out.block _ (by omega)).trans q1.out))
       have HBE : Hid (Below w.heap.size w wr) := zu8 (by
         have h1 := g4.out
         have h2 := g1.out
         have h3 := g3.out.size
         exact HB7.out.trans (((g3.out).mono (by omega)).trans (HBS.out.mono (by omega))))
       have v3 : Hid (w.heap.size + 1 < S) := zu8 (by have h1 := g4.out; have h2 := g1.out; omega)
       clear HBS g3 q0 q1 HB7 k8 k9
       go_wp2_with fail
       go_loopw [17] (fun iv wx => ∃ (i : Nat) (h : List Int), i ≤ 8 /\ iv = .int .i64 i /\ h.length = 8 /\ wx.heap[w.heap.size]? = some (.cells (u32c h) 200 (0, 0)) /\ wr.grownBy wx (some w.heap.size)) (fun iv _ => 8 - (intOf iv).toNat)
       case atStart => exact ⟨0, [a0, a1, a2, a3, a4, a5, a6, a7], by omega, rfl, rfl, v2.out, World.grownBy.refl _ _⟩
       case round =>
        obtain ⟨i, h, hi, rfl, hh, hx, hg⟩ := hrel
        have HX := zu8 hx
        have HG := zu8 hg
        have HH := zu8 hh
        clear hx hg hh
        by_cases hlt : i < 8
        ·have cx := kz HX.out (k := i) (by rw [HH.out]; exact hlt)
         have hf := qw (o := i) HX.out
         have q5 := (HG.out.block S (Array.getElem?_eq_some_iff.1 g0.out).1 (fun e => by cases e; have := v3.out; omega)).trans g0.out
         have cs := kz (l := [s0, s1, s2, s3, s4, s5, s6, s7]) q5 (k := i) (by show i < 8; exact hlt)
         obtain ⟨vs, q6⟩ : ∃ v, v = ([s0, s1, s2, s3, s4, s5, s6, s7] : List Int).getD i 0 := ⟨_, rfl⟩
         rw [← q6] at cs
         clear q6 q5
         go_wp2_with fail
         go_region
         rename_i hK
         refine hK _ _ ?_
         clear hK cx cs
         go_wp2
         go_roundw
         case rel => exact ⟨i + 1, _, by omega, by go_num, (List.length_set ..).trans HH.out, (kj i _ HX.out).trans (by rw [zjm]), zh6 (HG.out.trans (qv _ _ _ _))⟩
         case measure => simp [intOf]; omega
        ·obtain rfl : i = 8 := by omega
         obtain ⟨b0, b1, b2, b3, b4, b5, b6, b7, rfl⟩ := list8 HH.out
         have g2 : wr.heap[w.heap.size]? = some (.cells #[.int .u32 b0, .int .u32 b1, .int .u32 b2, .int .u32 b3, .int .u32 b4, .int .u32 b5, .int .u32 b6, .int .u32 b7] 200 (0, 0)) := HX.out
         have x0 := zu7 g2 0
         have x1 := zu7 g2 1
         have x2 := zu7 g2 2
         have x3 := zu7 g2 3
         have x4 := zu7 g2 4
         have x5 := zu7 g2 5
         have x6 := zu7 g2 6
         have x7 := zu7 g2 7
         simp only [List.getElem?_toArray, List.getElem?_cons_zero, List.getElem?_cons_succ] at x0 x1 x2 x3 x4 x5 x6 x7
         have v4 := zu8 ((HG.out.block (w.heap.size + 1) (Array.getElem?_eq_some_iff.1 HRE.out).1 (fun e => by have := Option.some.inj e; omega)).trans HRE.out)
         have HBF := zu8 (HBE.out.grown HG.out HBE.out.size (fun c e => by cases e; omega))
         clear g2
         go_wp2_with (first | (refine zv rfl 200 _ _ rfl (w.heap.size + 1) #[.int .u32 0, .int .u32 0, .int .u32 0, .int .u32 0, .int .u32 0, .int .u32 0, .int .u32 0, .int .u32 0] 200 v4.out rfl #[.int .u32 b0, .int .u32 b1, .int .u32 b2, .int .u32 b3, .int .u32 b4, .int .u32 b5, .int .u32 b6, .int .u32 b7] rfl rfl (by kernel_rfl) (by simp [Value.oneCell']) ?_; intro W2 hp2) | fail)
         exact bodyPost_ret (v := .agg #[.int .u32 b0, .int .u32 b1, .int .u32 b2, .int .u32 b3, .int .u32 b4, .int .u32 b5, .int .u32 b6, .int .u32 b7]) (qp Tryz.results167 rfl (load8 hp2.here)) rfl ⟨⟨b0, b1, b2, b3, b4, b5, b6, b7, rfl⟩, hp2.below HBF.out (by omega)⟩
      obtain ⟨vk, q7⟩ : ∃ v, v = kC.getD i 0 := ⟨_, rfl⟩
      obtain ⟨vw, q8⟩ : ∃ v, v = l.getD i 0 := ⟨_, rfl⟩
      have q9 : Hid (∀ W, Below S W7 W -> W.cell? ⟨Kb, i, none⟩ = some (.int .u32 vk) /\ W.cell? ⟨w.heap.size + 1 + 1, i, none⟩ = some (.int .u32 vw)) := zu8 (fun W hW => by
        have h1 := g4.out
        have h2 := g1.out
        rw [q7, q8]
        exact ⟨kz ((hW.block Kb (by omega)).trans ((g3.out.block Kb (by omega)).trans k8.out)) (by show i < 64; exact hlt), kz ((hW.block _ (by omega)).trans ((g3.out.block _ (by omega)).trans k9.out)) (by rw [HL.out]; exact hlt)⟩)
      have c0 : wr.cell? ⟨S, 0, none⟩ = some (.int .u32 s0) := zu7 g0.out 0
      have c1 : wr.cell? ⟨S, 1, none⟩ = some (.int .u32 s1) := zu7 g0.out 1
      have c2 : wr.cell? ⟨S, 2, none⟩ = some (.int .u32 s2) := zu7 g0.out 2
      have c3 : wr.cell? ⟨S, 3, none⟩ = some (.int .u32 s3) := zu7 g0.out 3
      have c4 : wr.cell? ⟨S, 4, none⟩ = some (.int .u32 s4) := zu7 g0.out 4
      have c5 : wr.cell? ⟨S, 5, none⟩ = some (.int .u32 s5) := zu7 g0.out 5
      have c6 : wr.cell? ⟨S, 6, none⟩ = some (.int .u32 s6) := zu7 g0.out 6
      have c7 : wr.cell? ⟨S, 7, none⟩ = some (.int .u32 s7) := zu7 g0.out 7
      go_wp2_with fail
      go_quiet ((go_at_call 192; exact Calls.quiet_of_same (ze9 _ _ _ (by decide))))
      have h8 : Hid ((wr.drewN nq).heap[S]? = some (.cells #[.int .u32 s0, .int .u32 s1, .int .u32 s2, .int .u32 s3, .int .u32 s4, .int .u32 s5, .int .u32 s6, .int .u32 s7] 200 (0, 0))) := zu8 g0.out
      have h9 := zu8 (below_drewN HBS.out nq)
      clear g0 HBS c0 c1 c2 c3 c4 c5 c6 c7
      generalize wr.drewN nq = W1 at *
      clear nq
      have g0 := h8
      have HBS := h9
      clear h8 h9
      have c0 : W1.cell? ⟨S, 0, none⟩ = some (.int .u32 s0) := zu7 g0.out 0
      have c1 : W1.cell? ⟨S, 1, none⟩ = some (.int .u32 s1) := zu7 g0.out 1
      have c2 : W1.cell? ⟨S, 2, none⟩ = some (.int .u32 s2) := zu7 g0.out 2
      have c3 : W1.cell? ⟨S, 3, none⟩ = some (.int .u32 s3) := zu7 g0.out 3
      have c4 : W1.cell? ⟨S, 4, none⟩ = some (.int .u32 s4) := zu7 g0.out 4
      have c5 : W1.cell? ⟨S, 5, none⟩ = some (.int .u32 s5) := zu7 g0.out 5
      have c6 : W1.cell? ⟨S, 6, none⟩ = some (.int .u32 s6) := zu7 g0.out 6
      have c7 : W1.cell? ⟨S, 7, none⟩ = some (.int .u32 s7) := zu7 g0.out 7
      go_wp2_with fail
      generalize bits BinOp.xor IntKind.u32 (bits BinOp.xor IntKind.u32 (rotF s4 6) (rotF s4 11)) (rotF s4 25) = te at *
      clear q7 q8
      obtain ⟨ck, cw⟩ := q9.out W1 HBS.out
      go_quiet (fail)
      have j0 : Hid ((W1.drewN nq).heap[S]? = some (.cells #[.int .u32 s0, .int .u32 s1, .int .u32 s2, .int .u32 s3, .int .u32 s4, .int .u32 s5, .int .u32 s6, .int .u32 s7] 200 (0, 0))) := zu8 g0.out
      have j5 := zu8 (below_drewN HBS.out nq)
      clear g0 HBS c0 c1 c2 c3 c4 c5 c6 c7 ck cw
      generalize W1.drewN nq = W2 at *
      clear nq
      have g0 := j0
      have HBS := j5
      clear j0 j5
      have c0 : W2.cell? ⟨S, 0, none⟩ = some (.int .u32 s0) := zu7 g0.out 0
      have c1 : W2.cell? ⟨S, 1, none⟩ = some (.int .u32 s1) := zu7 g0.out 1
      have c2 : W2.cell? ⟨S, 2, none⟩ = some (.int .u32 s2) := zu7 g0.out 2
      have c3 : W2.cell? ⟨S, 3, none⟩ = some (.int .u32 s3) := zu7 g0.out 3
      have c4 : W2.cell? ⟨S, 4, none⟩ = some (.int .u32 s4) := zu7 g0.out 4
      have c5 : W2.cell? ⟨S, 5, none⟩ = some (.int .u32 s5) := zu7 g0.out 5
      have c6 : W2.cell? ⟨S, 6, none⟩ = some (.int .u32 s6) := zu7 g0.out 6
      have c7 : W2.cell? ⟨S, 7, none⟩ = some (.int .u32 s7) := zu7 g0.out 7
      generalize ((s7 + te + bits BinOp.xor IntKind.u32 (bits BinOp.and IntKind.u32 s4 s5) (bits BinOp.and IntKind.u32 (bits BinOp.xor IntKind.u32 (if IntKind.u32.signed = true then -1 else IntKind.u32.max) s4) s6) + vk) % 4294967296 + vw) % 4294967296 = tx at *
      clear q9
      go_wp2_with fail
      go_quiet ((go_at_call 192; exact Calls.quiet_of_same (ze9 _ _ _ (by decide))))
      have j6 : Hid ((W2.drewN nq).heap[S]? = some (.cells #[.int .u32 s0, .int .u32 s1, .int .u32 s2, .int .u32 s3, .int .u32 s4, .int .u32 s5, .int .u32 s6, .int .u32 s7] 200 (0, 0))) := zu8 g0.out
      have j7 := zu8 (below_drewN HBS.out nq)
      clear g0 HBS c0 c1 c2 c3 c4 c5 c6 c7
      generalize W2.drewN nq = W3 at *
      clear nq
      have g0 := j6
      have HBS := j7
      clear j6 j7
      have c0 : W3.cell? ⟨S, 0, none⟩ = some (.int .u32 s0) := zu7 g0.out 0
      have c1 : W3.cell? ⟨S, 1, none⟩ = some (.int .u32 s1) := zu7 g0.out 1
      have c2 : W3.cell? ⟨S, 2, none⟩ = some (.int .u32 s2) := zu7 g0.out 2
      have c3 : W3.cell? ⟨S, 3, none⟩ = some (.int .u32 s3) := zu7 g0.out 3
      have c4 : W3.cell? ⟨S, 4, none⟩ = some (.int .u32 s4) := zu7 g0.out 4
      have c5 : W3.cell? ⟨S, 5, none⟩ = some (.int .u32 s5) := zu7 g0.out 5
      have c6 : W3.cell? ⟨S, 6, none⟩ = some (.int .u32 s6) := zu7 g0.out 6
      have c7 : W3.cell? ⟨S, 7, none⟩ = some (.int .u32 s7) := zu7 g0.out 7
      generalize bits BinOp.xor IntKind.u32 (bits BinOp.xor IntKind.u32 (rotF s0 2) (rotF s0 13)) (rotF s0 22) = ta at *
      go_upto_region 21 with fail
      generalize (ta + bits BinOp.xor IntKind.u32 (bits BinOp.xor IntKind.u32 (bits BinOp.and IntKind.u32 s0 s1) (bits BinOp.and IntKind.u32 s0 s2)) (bits BinOp.and IntKind.u32 s1 s2)) % 4294967296 = ty at *
      go_wp2_with (first | (refine zv rfl 200 _ _ rfl S #[.int .u32 s0, .int .u32 s1, .int .u32 s2, .int .u32 s3, .int .u32 s4, .int .u32 s5, .int .u32 s6, .int .u32 s7] 200 g0.out rfl #[.int .u32 ((tx + ty) % 4294967296), .int .u32 s0, .int .u32 s1, .int .u32 s2, .int .u32 ((s3 + tx) % 4294967296), .int .u32 s4, .int .u32 s5, .int .u32 s6] rfl rfl (by kernel_rfl) (by simp [Value.oneCell']) ?_; intro W9 v0) | fail)
      clear c0 c1 c2 c3 c4 c5 c6 c7
      go_roundw
      case rel => exact ⟨i + 1, _, _, _, _, _, _, _, _, by omega, by go_num, v0.here, v0.below HBS.out (zva _)⟩
      case measure => simp [intOf]; omega
open Go.RowKit
end Go.Proofs.YtbikeahmldobkaaGreatDoor
