/-
  Lemmas for the law.
-/
import Derived.Test.YtbikeahmldobkaaGreatDoorC41x41
import Derived.Test.YtbikeahmldobkaaGreatDoorC41x42
set_option linter.all false
set_option maxRecDepth 100000
set_option maxHeartbeats 3200000
namespace Go.Proofs.YtbikeahmldobkaaGreatDoor
open Go.RowKit
theorem Zs.atU {w : World} {a : Option Addr} {n cap : Nat} {l : List Int} (h : Zs w (.slice a n cap) l) (j : Nat) (hj : j < l.length) : ∃ b off, a = some ⟨b, off, none⟩ /\ b < w.heap.size /\ w.cell? ⟨b, off + j, none⟩ = some (.int .i64 l[j]) := by
 obtain ⟨a', c, e, hc⟩ := h
 cases e
 exact hc j hj
theorem zidx_any (v : Value) (l : List Int) (c : Int) (w : World) (hv : Zs w v l) (hl : l.length ≤ 1000000) :
  Calls Tryz.prog 75 #[v, .int .i64 c] w fun e w' => ∃ i : Int, e = .returned (.int .i64 i) /\ (0 ≤ i ↔ c ∈ l) /\ Below w.heap.size w w' := by
 have HV := zpa hv
 obtain ⟨va, vc, rfl, hjunk⟩ := hv
 clear hjunk
 go_enter Tryz.func75, Tryz.ntmps75
 go_wp2
 go_loopw [8] (fun jv wx => ∃ j : Nat, j ≤ l.length /\ jv = .int .i64 j /\ c ∉ l.take j /\ Below w.heap.size w wx) (fun jv _ => l.length - (intOf jv).toNat)
 case atStart => exact ⟨0, Nat.zero_le _, rfl, by simp, zpd _ _⟩
 case round =>
  obtain ⟨j, hj, rfl, hnm, hbx⟩ := hrel
  have HBX := zpa hbx
  have HNM := zpa hnm
  clear hnm
  by_cases hlt : j < l.length
  ·obtain ⟨g, off, rfl, hgl, hgc⟩ := HV.out.atU j hlt
   have hc := (hbx.cell (p := ⟨g, off + j, none⟩) hgl).trans hgc
   have HTS : Hid (c ∉ l.take j -> ¬ c = l[j] -> c ∉ l.take (j + 1)) := zpa (fun h1 h2 => by
     rw [List.take_succ_eq_append_getElem hlt, List.mem_append, List.mem_singleton]
     exact fun h => h.elim h1 h2)
   have HIN : Hid (c = l[j] -> c ∈ l) := zpa (fun h => by rw [h]; exact List.getElem_mem hlt)
   have i1 : (0 : Int) ≤ (j : Int) := by omega
   have i2 : (j : Int) < (l.length : Int) := by omega
   clear hbx hgc
   generalize l[j] = d at *
   by_cases hcd : c = d
   ·have HCD := zpa hcd
    have hb : (c == d) = true := by rw [beq_iff_eq]; exact hcd
    clear hcd
    go_wp2
    go_ret
    exact ⟨j, rfl, ⟨fun _ => HIN.out HCD.out, fun _ => by omega⟩, HBX.out⟩
   ·have HCD := zpa hcd
    have hb : (c == d) = false := by rw [zpe]; exact hcd
    go_wp2
    go_roundw
    case rel => exact ⟨j + 1, by omega, by go_num, HTS.out HNM.out HCD.out, HBX.out⟩
    case measure => simp [intOf]; omega
  ·obtain rfl : j = l.length := by omega
   have HN : Hid (c ∉ l) := zpa (by have := HNM.out; rwa [List.take_length] at this)
   clear hbx
   go_wp2
   go_ret
   exact ⟨-1, rfl, ⟨fun h => absurd h (by decide), fun h => absurd h HN.out⟩, HBX.out⟩
theorem zhas_any (v : Value) (l : List Int) (c : Int) (w : World) (hv : Zs w v l) (hl : l.length ≤ 1000000) :
  Calls Tryz.prog 42 #[v, .int .i64 c] w fun e w' => e = .returned (.bool (decide (c ∈ l))) /\ Below w.heap.size w w' := by
 have HV := zpa hv
 clear hv
 go_enter Tryz.func42, Tryz.ntmps42
 go_wp2_with fail
 refine (zidx_any v l c w HV.out hl).mono ?_
 rintro e w1 ⟨i, rfl, hi, hb⟩
 have HI : Hid (decide (0 ≤ i) = decide (c ∈ l)) := zpa (decide_eq_decide.2 hi)
 have HB := zpa hb
 clear hi hb
 go_wp2
 go_ret
 exact ⟨by rw [← HI.out]; rfl, HB.out⟩
def V.pathOf (ok : Bool) (l : List V.Comp) (i : Int) : List Int := if ok = true /\ 0 ≤ i /\ i < l.length then (V.anc l i).reverse else []
theorem zf9 {l : List V.Comp} {ok : Bool} {i : Int} (h : ok = true -> V.zy l l.length = true) : (V.pathOf ok l i).length ≤ l.length := by
 unfold V.pathOf
 split
 ·rename_i q
  rw [List.length_reverse]
  exact V.zel (h q.1) i q.2.2
 ·simp
theorem zkv (d : List Int) (time : Int) (v : Value) (l : List V.Comp) (c : Int) (X O : Nat) (h : V.Hit) (u : Sd) (w : World) (hm : zm w) (hd : d.length = 32) (hdw : ∀ n ∈ d, (Lit.int .u8 n).wf = true) (hv : Comps w v l) (hl : l.length ≤ 100000)
  (hX : w.heap[X]? = some (.cells (icells d time v) 29 (0, 0))) (hO : w.heap[O]? = some (.cells #[.int .i64 c] 3 (0, 0))) :
  Calls Tryz.prog 41 #[.agg (hE (h, u)).toArray, .pointer (some ⟨X, 0, none⟩), .pointer (some ⟨O, 0, none⟩)] w fun e w' => e = .returned (.bool (!decide (c ∈ V.pathOf (V.qc d time l) l h.comp))) /\ Below w.heap.size w w' := by
 have HM := zpa hm
 have HL := zpa hv
 have HD := zpa hd
 have HDW := zpa hdw
 have HSZ := zpa (qo hd time v)
 obtain ⟨⟨ua, un, uc⟩, hu⟩ : ∃ y, y = u := ⟨_, rfl⟩
 subst hu
 unfold hE Sd.v
 obtain ⟨W0, hW0⟩ : ∃ W0, W0 = w.alloc (.cells #[.int .i64 h.comp, .string ⟨h.id.toArray⟩, .int .i64 h.sev, .slice ua un uc] 63) := ⟨_, rfl⟩
 have hb0 : Below w.heap.size w W0 := by rw [hW0]; exact (zpd w.heap.size w).alloc (zpc _) _
 have HB0 := zpa hb0
 have HX := zpa ((hb0.block _ (Array.getElem?_eq_some_iff.1 hX).1).trans hX)
 have HO := zpa ((hb0.block _ (Array.getElem?_eq_some_iff.1 hO).1).trans hO)
 have HG : Hid (W0.heap[w.heap.size]? = some (.cells #[.int .i64 h.comp, .string ⟨h.id.toArray⟩, .int .i64 h.sev, .slice ua un uc] 63 (0, 0))) := zpa (by rw [hW0]; exact heap_alloc_new w _)
 have HW := zpa hW0
 have HXl : Hid (X < W0.heap.size) := zpa (Array.getElem?_eq_some_iff.1 HX.out).1
 have HOl : Hid (O < W0.heap.size) := zpa (Array.getElem?_eq_some_iff.1 HO.out).1
 have HOK : Hid ((V.pathOf (V.qc d time l) l h.comp).length ≤ 1000000) := zpa (Nat.le_trans (zf9 (fun h => by unfold V.qc at h; exact (Bool.and_eq_true_iff.1 h).2)) (by omega))
 clear hd hdw hm hv hb0 hX hO hW0
 go_enter Tryz.func41, Tryz.ntmps41
 go_wp2_with fail
 rw [← HW.out]
 have h0 : W0.cell? ⟨w.heap.size, 0, none⟩ = some (.int .i64 h.comp) := by rw [cell_of_row _ _ _ _ _ _ HG.out]; rfl
 have o0 : W0.cell? ⟨O, 0, none⟩ = some (.int .i64 c) := by rw [cell_of_row _ _ _ _ _ _ HO.out]; rfl
 refine wp_region_held_drew (S := (fun W' => Below W0.heap.size W0 W')) (by kernel_rfl) ((zpd _ W0).drew) (fun hHeld => ?_)
 refine tv 0 (.agg (icells d time v)) ?_ ?_
 ·exact fun w' hSw => ul (ty := 29) rfl rfl (zam ((hSw.block X HXl.out).trans HX.out) Tryz.underlying29 rfl (by rw [jg, HSZ.out]))
 refine tk 1 ?_
 refine tv 2 (.int .i64 h.comp) ?_ ?_
 ·exact fun w' hSw => ul rfl rfl (by have hq := zg hSw h0; go_simp)
 refine tv 4 (.int .i64 c) ?_ ?_
 ·exact fun w' hSw => ul rfl rfl (by have hq := zg hSw o0; go_simp)
 refine rd 3 fun K hK => ?_
 go_simp
 refine (zn6 d time v l h.comp _ (HM.out.below (HB0.out.trans (hHeld.mono HB0.out.size))) HD.out HDW.out (HL.out.below (HB0.out.trans (hHeld.mono HB0.out.size))) hl).mono ?_
 rintro e w3 ⟨pv, rfl, hz, hb3⟩
 try dsimp only
 have HZ : Hid (Zs w3 pv (V.pathOf (V.qc d time l) l h.comp)) := zpa hz
 refine hK.out _ _ ?_ (fun hHeld => nx ?_)
 ·(try dsimp only); exact hHeld.trans (hb3.mono hHeld.size)
 clear hK K
 refine rd 5 fun K hK => ?_
 go_simp
 refine (zhas_any _ _ c _ (HZ.out.below (zpd _ _)) HOK.out).mono ?_
 rintro e w5 ⟨rfl, hb5⟩
 try dsimp only
 refine hK.out _ _ ?_ (fun hHeld => nx ?_)
 ·(try dsimp only); exact hHeld.trans (hb5.mono hHeld.size)
 clear hK K
 refine tk 6 ?_
 refine tk 7 ?_
 refine wpAnyH_done (by kernel_rfl) ?_ _
 have HE := zpb HB0 hHeld
 clear hHeld h0 o0
 go_wp2
 go_ret
 exact ⟨rfl, HE.out⟩
end Go.Proofs.YtbikeahmldobkaaGreatDoor
