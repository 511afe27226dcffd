/-
  Lemmas for the law.
-/
import Derived.Test.YtbikeahmldobkaaGreatDoorC41x46
import Derived.Test.YtbikeahmldobkaaGreatDoorC41x44
import Derived.Test.YtbikeahmldobkaaGreatDoorC41x48
import Derived.Test.YtbikeahmldobkaaGreatDoorC41x12
import Derived.Test.YtbikeahmldobkaaGreatDoorC41x47
import Derived.Test.YtbikeahmldobkaaGreatDoorC41x42
import Derived.Test.YtbikeahmldobkaaGreatDoorC41x41
import Derived.Test.YtbikeahmldobkaaGreatDoorC41x13
import Derived.OrdersHeld
set_option linter.all false
set_option maxRecDepth 100000
set_option maxHeartbeats 6400000
namespace Go.Proofs.YtbikeahmldobkaaGreatDoor
open Go.RowKit
namespace V
def dupP {α : Type} (P : List Int) (c : Int) (p : α) : List α := (P.filter fun x => decide (x = c)).map fun _ => p
theorem zom {α : Type} {P : List Int} {c : Int} {p : α} {m : Nat} (h : m < P.length) : dupP (P.take (m + 1)) c p = dupP (P.take m) c p ++ if P[m] = c then [p] else [] := by
 unfold dupP
 rw [List.take_succ_eq_append_getElem h, List.filter_append, List.map_append]
 congr 1
 by_cases e : P[m] = c
 ·rw [if_pos e, List.filter_cons, if_pos (decide_eq_true e)]; rfl
 ·rw [if_neg e, List.filter_cons, if_neg (by simpa using e)]; rfl
theorem zkl {α : Type} (P : List Int) (c : Int) (p : α) : (dupP P c p).length ≤ P.length := by
 unfold dupP
 rw [List.length_map]
 exact List.length_filter_le _ _
end V
def outK (ok : Bool) (l : List V.Comp) (c : Int) (us : List (V.Hit × Sd)) (k : Nat) : List (V.Hit × Sd) := (us.take k).flatMap fun p => V.dupP (V.pathOf ok l p.1.comp) c p
theorem zg3 {ok : Bool} {l : List V.Comp} {c : Int} {us : List (V.Hit × Sd)} {k : Nat} (h : k < us.length) : outK ok l c us (k + 1) = outK ok l c us k ++ V.dupP (V.pathOf ok l us[k].1.comp) c us[k] := by
 unfold outK
 rw [List.take_succ_eq_append_getElem h, List.flatMap_append]
 congr 1
 simp
theorem zjy {ok : Bool} {l : List V.Comp} {c : Int} {us : List (V.Hit × Sd)} (ho : ok = true -> V.zy l l.length = true) : ∀ {k : Nat}, k ≤ us.length -> (outK ok l c us k).length ≤ k * l.length
 | 0, _ => by simp [outK]
 | k + 1, h => by
  have ih := zjy (c := c) (us := us) ho (k := k) (by omega)
  rw [zg3 (by omega), List.length_append, Nat.succ_mul]
  have h1 := V.zkl (V.pathOf ok l us[k].1.comp) c us[k]
  have h2 := zf9 (i := us[k].1.comp) ho
  omega
theorem zm3 {ok : Bool} {ys : List V.Note} {l : List V.Comp} (c : Int) {us : List (V.Hit × Sd)} (ho : ok = true -> V.zy l l.length = true) (h : us.map (·.1) = V.jq ok ys l) : (outK ok l c us us.length).map (·.1) = V.uf l (V.jq ok ys l) c := by
 have e : (outK ok l c us us.length).map (·.1) = (us.map (·.1)).flatMap fun h => V.dupH (V.pathOf ok l h.comp) c h := by
  unfold outK V.dupH V.dupP
  rw [List.take_length, List.map_flatMap, List.flatMap_map]
  simp only [List.map_map]
  rfl
 rw [e, h]
 cases ok with
 | false => rfl
 | true =>
  have hc : ∀ h ∈ V.jq true ys l, 0 ≤ h.comp /\ h.comp < l.length := fun h hh => (zeo hh).2
  rw [← V.under_of (ho rfl) hc c]
  unfold V.zi5
  rw [List.flatMap_def, List.flatMap_def]
  congr 1
  refine List.map_congr_left fun x hx => ?_
  have := hc x hx
  unfold V.pathOf
  rw [if_pos ⟨rfl, this.1, this.2⟩]
theorem zmd (d : List Int) (time : Int) (v : Value) (l : List V.Comp) (nv : Value) (xs : List NV) (c : Int) (w : World) (hm : zm w) (hd : d.length = 32) (hdw : ∀ n ∈ d, (Lit.int .u8 n).wf = true) (hv : Comps w v l) (hl : l.length ≤ 100) (hn : Notes w nv xs) (hx : xs.length ≤ 90) :
  Calls Tryz.prog 20 #[.agg (icells d time v), nv, .int .i64 c] w (zht (V.qc d time l) (xs.map (·.n)) l c w) := by
 have HM := zpa hm
 have HL := zpa hv
 have HD := zpa hd
 have HDW := zpa hdw
 have HNV := zpa hn
 have HX := zpa hx
 have HSZ := zpa (qo hd time v)
 have HO : Hid (V.qc d time l = true -> V.zy l l.length = true) := zpa (fun h => by unfold V.qc at h; exact (Bool.and_eq_true_iff.1 h).2)
 obtain ⟨va, vc, rfl, hjunk⟩ := hv
 obtain ⟨W0, hW0⟩ : ∃ W0, W0 = w.alloc (.cells (icells d time (.slice va l.length vc)) 29) := ⟨_, rfl⟩
 have HB0 : Hid (Below w.heap.size w W0) := zpa (by rw [hW0]; exact (zpd w.heap.size w).alloc (zpc _) _)
 have HG0 : Hid (W0.heap[w.heap.size]? = some (.cells (icells d time (.slice va l.length vc)) 29 (0, 0))) := zpa (by rw [hW0]; exact heap_alloc_new w _)
 have HZ0 : Hid (w.heap.size < W0.heap.size) := zpa (by rw [hW0]; simp)
 have HW := zpa hW0
 clear hd hdw hjunk hm hn hx hW0
 go_enter Tryz.func20, Tryz.ntmps20
 go_wp2_with (first | (rw [← HW.out]; refine wpList_load_row rfl _ _ rfl w.heap.size rfl _ (icells d time (.slice va l.length vc)) (0, 0) _ HG0.out Tryz.underlying29 rfl (by rw [jg, HSZ.out]) ?_) | fail)
 refine (zhd d time (.slice va l.length vc) l nv xs W0 (HM.out.below HB0.out) HD.out HDW.out (HL.out.below HB0.out) hl (HNV.out.below HB0.out) (by have := HX.out; omega)).mono ?_
 rintro e w1 ⟨hv1, us, rfl, hrow, hsaid, hb1⟩
 have HSD := zpa hsaid
 have HB1 := zpb HB0 hb1
 have HG1 := zpa ((hb1.block _ HZ0.out).trans HG0.out)
 have HZ1 : Hid (w.heap.size < w1.heap.size) := zpa (Nat.lt_of_lt_of_le HZ0.out hb1.size)
 have HUS := zpa hrow.list
 have HUL : Hid (us.length ≤ 9000) := zpa (by
   have h1 := zbf (ok := V.qc d time l) (ys := xs.map (·.n)) (l := l)
   rw [← hsaid, List.length_map, List.length_map] at h1
   have h2 : l.length * xs.length ≤ 100 * 90 := Nat.mul_le_mul hl HX.out
   omega)
 obtain ⟨ha, hc9, hhv⟩ := hrow.row.slice
 subst hhv
 clear hrow hsaid hb1
 obtain ⟨ok, hok⟩ : ∃ ok, ok = V.qc d time l := ⟨_, rfl⟩
 have HOK := zpa hok
 rw [← hok] at HO
 clear hok
 go_wp2_with fail
 go_loopw [7, 9] (fun ov iv wx => ∃ k : Nat, k ≤ us.length /\ iv = .int .i64 k /\ HRow w1.heap.size wx ov (outK ok l c us k) /\ Below w1.heap.size w1 wx) (fun _ iv _ => us.length - (intOf iv).toNat)
 case atStart => exact ⟨0, Nat.zero_le _, rfl, HRow.nil _ _, zpd _ _⟩
 case round =>
  obtain ⟨k, hk, rfl, hrow, hbx⟩ := hrel
  have HROW := zpa hrow
  have HBX := zpa hbx
  have HBW := zpb HB1 hbx
  obtain ⟨oa, oc, hov⟩ := hrow.row.slice
  subst hov
  by_cases hlt : k < us.length
  ·obtain ⟨g, off, rfl, hg, hc⟩ := HUS.out.1.at k hlt
   obtain ⟨p, hp⟩ : ∃ p : V.Hit × Sd, p = us[k] := ⟨_, rfl⟩
   have hra : wr.rangeAt g (off + k * 4) (hE p) := by rw [hp]; exact zh (fun i u hu => hc i u hu) hbx
   have HST : Hid (outK ok l c us (k + 1) = outK ok l c us k ++ V.dupP (V.pathOf ok l p.1.comp) c p) := zpa (by rw [zg3 hlt, hp])
   have HDP : Hid (Digs wr p.2.v p.1.docs) := zpa ((HUS.out.2 p (by rw [hp]; exact List.getElem_mem hlt)).below hbx)
   have HKL : Hid ((outK ok l c us k).length ≤ 900000) := zpa (by
     have h1 := zjy (c := c) HO.out hk
     have h2 : k * l.length ≤ 9000 * 100 := Nat.mul_le_mul (by have := HUL.out; omega) hl
     omega)
   have HRA := zpa hra
   have HRA1 : Hid (w1.rangeAt g (off + k * 4) (hE p)) := zpa (by rw [hp]; exact fun i u hu => hc i u hu)
   have HLT := zpa hlt
   clear hp hc
   obtain ⟨⟨a0, b0, s0, dc⟩, ⟨sa, sn, sc⟩⟩ := p
   have HC0 : Hid (wr.cell? ⟨g, off + k * 4, none⟩ = some (.int .i64 a0)) := zpa (hra 0 _ rfl)
   have HMr := zpa (HM.out.below HBW.out)
   have HVr := zpa (HL.out.below HBW.out)
   have HGr := zpa ((hbx.block _ HZ1.out).trans HG1.out)
   have HXl : Hid (w.heap.size < wr.heap.size) := zpa (Nat.lt_of_lt_of_le HZ1.out hbx.size)
   have i1 : (0 : Int) ≤ (k : Int) := by omega
   have i2 : (k : Int) < (us.length : Int) := by omega
   have hkb : k < 9000 := by have := HUL.out; omega
   clear hra hbx hrow
   go_wp2_with fail
   refine wp_region_held_drew (S := (fun W' => Below wr.heap.size wr W')) (by kernel_rfl) ((zpd _ wr).drew) (fun hHeld => ?_)
   refine tv 0 (.agg (icells d time (.slice va l.length vc))) ?_ ?_
   ·exact fun w' hSw => ul (ty := 29) rfl rfl (zam ((hSw.block w.heap.size HXl.out).trans HGr.out) Tryz.underlying29 rfl (by rw [jg, HSZ.out]))
   refine tk 1 ?_
   refine tk 2 ?_
   refine tk 3 ?_
   refine tk 4 ?_
   refine tv 5 (.int .i64 a0) ?_ ?_
   ·exact fun w' hSw => ul rfl rfl (by have hq := zg hSw HC0.out; go_simp)
   refine rd 6 fun K hK => ?_
   go_simp
   refine (zkt d time (.slice va l.length vc) l a0 _ (HMr.out.below hHeld) HD.out HDW.out (HVr.out.below hHeld) (by omega)).mono ?_
   rintro e w6 ⟨pv, rfl, hz6, hb6⟩
   try dsimp only
   have HZ6 : Hid (ZRow w6 wr.heap.size pv (V.pathOf (V.qc d time l) l a0)) := zpa hz6
   refine hK.out _ _ ?_ (fun hHeld => nx ?_)
   ·(try dsimp only); exact hHeld.trans (hb6.mono hHeld.size)
   clear hK K
   refine tk 7 ?_
   refine wpAnyH_done (by kernel_rfl) ?_ _
   have HB6 := zpa hHeld
   clear hHeld hz6 hb6
   rw [← HOK.out] at HZ6
   have HPL : Hid ((V.pathOf ok l a0).length ≤ 100) := zpa (Nat.le_trans (zf9 HO.out) hl)
   obtain ⟨P, hP⟩ : ∃ P, P = V.pathOf ok l a0 := ⟨_, rfl⟩
   try simp only at HST
   rw [← hP] at HZ6 HST HPL
   obtain ⟨pa, pc, hpv⟩ := HZ6.out.slice
   subst hpv
   have HROW6 := zpa (HROW.out.below HB6.out)
   have HB16 := zpa (HBX.out.trans (HB6.out.mono HBX.out.size))
   have HDP6 := zpa (HDP.out.below HB6.out)
   clear hP
   generalize wr.heap.size = M6 at *
   go_wp2_with fail
   go_loopw [7, 11] (fun ov iv wx => ∃ m : Nat, m ≤ P.length /\ iv = .int .i64 m /\ HRow w1.heap.size wx ov (outK ok l c us k ++ V.dupP (P.take m) c (⟨a0, b0, s0, dc⟩, ⟨sa, sn, sc⟩)) /\ Below w1.heap.size w1 wx /\ ZRow wx M6 (.slice pa P.length pc) P /\ Digs wx (.slice sa sn sc) dc) (fun _ iv _ => P.length - (intOf iv).toNat)
   case atStart => exact ⟨0, Nat.zero_le _, rfl, by simpa [V.dupP] using HROW6.out, HB16.out, HZ6.out, HDP6.out⟩
   case round =>
    obtain ⟨m, hm, rfl, hrow2, hbx2, hz62, hd62⟩ := hrel
    have HROW2 := zpa hrow2
    have HBX2 := zpa hbx2
    have HZ62 := zpa hz62
    have HD62 := zpa hd62
    obtain ⟨oa2, oc2, hov2⟩ := hrow2.row.slice
    subst hov2
    clear hrow2 hz62 hd62
    by_cases hml : m < P.length
    ·obtain ⟨g2, off2, hpa, hg2, p0⟩ := HZ62.out.zs.atU m hml
     subst hpa
     have HDS : Hid (V.dupP (P.take (m + 1)) c ((⟨a0, b0, s0, dc⟩ : V.Hit), (⟨sa, sn, sc⟩ : Sd)) = V.dupP (P.take m) c (⟨a0, b0, s0, dc⟩, ⟨sa, sn, sc⟩) ++ if P[m] = c then [(⟨a0, b0, s0, dc⟩, ⟨sa, sn, sc⟩)] else []) := zpa (V.zom hml)
     have HDL : Hid ((outK ok l c us k ++ V.dupP (P.take m) c ((⟨a0, b0, s0, dc⟩ : V.Hit), (⟨sa, sn, sc⟩ : Sd))).length ≤ 900100) := zpa (by
       have h1 := V.zkl (P.take m) c ((⟨a0, b0, s0, dc⟩ : V.Hit), (⟨sa, sn, sc⟩ : Sd))
       have h2 := HKL.out
       have h3 := HPL.out
       rw [List.length_take] at h1
       rw [List.length_append]
       omega)
     have m1 : (0 : Int) ≤ (m : Int) := by omega
     have m2 : (m : Int) < (P.length : Int) := by omega
     have hmb : m < 200 := by have := HPL.out; omega
     have hra := zh HRA1.out hbx2
     have e0 : wr.cell? ⟨g, off + k * 4, none⟩ = some (.int .i64 a0) := hra 0 _ rfl
     have e1 : wr.cell? ⟨g, off + k * 4 + 1, none⟩ = some (.string ⟨b0.toArray⟩) := hra 1 _ rfl
     have e2 : wr.cell? ⟨g, off + k * 4 + 2, none⟩ = some (.int .i64 s0) := hra 2 _ rfl
     have e3 : wr.cell? ⟨g, off + k * 4 + 3, none⟩ = some (.slice sa sn sc) := hra 3 _ rfl
     clear hbx2 hra
     generalize P[m] = z at *
     by_cases hz : z = c
     ·have hb : (z == c) = true := by rw [beq_iff_eq]; exact hz
      have HDE : Hid (V.dupP (P.take (m + 1)) c ((⟨a0, b0, s0, dc⟩ : V.Hit), (⟨sa, sn, sc⟩ : Sd)) = V.dupP (P.take m) c (⟨a0, b0, s0, dc⟩, ⟨sa, sn, sc⟩) ++ [(⟨a0, b0, s0, dc⟩, ⟨sa, sn, sc⟩)]) := zpa (by rw [HDS.out, if_pos hz])
      have hb7 : Below wr.heap.size wr (wr.alloc (.cells #[.int .i64 a0, .string ⟨b0.toArray⟩, .int .i64 s0, .slice sa sn sc] 63)) := (zpd _ wr).alloc (zpc _) _
      have HR7 := zpa (HROW2.out.below hb7)
      have HB7 := zpb HBX2 hb7
      have HZ7 := zpa (HZ62.out.kept (jp hb7 none) (fun b e => by cases e))
      have HD7 : Hid (Digs (wr.alloc (.cells #[.int .i64 a0, .string ⟨b0.toArray⟩, .int .i64 s0, .slice sa sn sc] 63)) (.slice sa sn sc) dc) := zpa (HD62.out.below hb7)
      have HNW := zpa (zi7 wr ⟨a0, b0, s0, dc⟩ ⟨sa, sn, sc⟩)
      clear hb7 hz
      generalize hL : outK ok l c us k ++ V.dupP (P.take m) c (⟨a0, b0, s0, dc⟩, ⟨sa, sn, sc⟩) = L at *
      have HLE := zpa hL
      clear hL
      go_wp2_with (first
        | (refine ud xk (by decide) zc3 zhm (by decide) rfl _ _ 35 rfl Tryz.underlying35 w1.heap.size (.slice oa2 L.length oc2) L rfl HR7.out.row (.slice (some ⟨wr.heap.size, 0, none⟩) 1 1) [(⟨a0, b0, s0, dc⟩, ⟨sa, sn, sc⟩)] rfl (GSl.one (by simp) HNW.out) (by have := HDL.out; simp; omega) HB7.out.size ?_
           intro v8 w8 hr8 hg8 ho8
           clear e0 e1 e2 e3 p0)
        | fail)
      have HR8 := zpa (HR7.out.append (fun p hp => by
        rw [List.mem_singleton] at hp
        rw [hp]; exact HD7.out) hr8 hg8)
      have HB8 : Hid (Below w1.heap.size w1 w8) := zpa (HB7.out.grown hg8 HB7.out.size (fun b hb => HR7.out.row.block b hb))
      rw [← HLE.out, List.append_assoc, ← HDE.out] at HR8
      have HZ8 := zpa (HZ7.out.kept hg8 (fun b e q => by
        obtain ⟨cs, h1⟩ := jt HR7.out.row e
        obtain ⟨cs2, h2⟩ := HZ7.out.cellsAt b q
        rw [h1] at h2
        cases h2))
      have HD8 : Hid (Digs w8 (.slice sa sn sc) dc) := zpa (HD7.out.grow hg8 (fun b e => by
        obtain ⟨cs, h1⟩ := jt HR7.out.row e
        exact ⟨cs, _, _, h1, by decide⟩))
      clear hr8 hg8 ho8
      go_wp2
      go_roundw
      case rel => exact ⟨m + 1, by omega, by go_num, HR8.out, HB8.out, HZ8.out, HD8.out⟩
      case measure => simp [intOf]; omega
     ·have hb : (z == c) = false := by rw [zpe]; exact hz
      have HDE : Hid (V.dupP (P.take (m + 1)) c ((⟨a0, b0, s0, dc⟩ : V.Hit), (⟨sa, sn, sc⟩ : Sd)) = V.dupP (P.take m) c (⟨a0, b0, s0, dc⟩, ⟨sa, sn, sc⟩)) := zpa (by rw [HDS.out, if_neg hz, List.append_nil])
      have HRN : Hid (HRow w1.heap.size wr (.slice oa2 (outK ok l c us k ++ V.dupP (P.take m) c ((⟨a0, b0, s0, dc⟩ : V.Hit), (⟨sa, sn, sc⟩ : Sd))).length oc2) (outK ok l c us k ++ V.dupP (P.take (m + 1)) c (⟨a0, b0, s0, dc⟩, ⟨sa, sn, sc⟩))) := zpa (by rw [HDE.out]; exact HROW2.out)
      clear hz e0 e1 e2 e3
      go_wp2
      go_roundw
      case rel => exact ⟨m + 1, by omega, by go_num, HRN.out, HBX2.out, HZ62.out, HD62.out⟩
      case measure => simp [intOf]; omega
    ·obtain rfl : m = P.length := by omega
     have HRN : Hid (HRow w1.heap.size wr (.slice oa2 (outK ok l c us k ++ V.dupP (P.take P.length) c ((⟨a0, b0, s0, dc⟩ : V.Hit), (⟨sa, sn, sc⟩ : Sd))).length oc2) (outK ok l c us (k + 1))) := zpa (by
       have := HROW2.out
       rw [List.take_length] at this ⊢
       rw [HST.out]; exact this)
     clear hbx2
     go_wp2
     go_roundw
     case rel => exact ⟨k + 1, by have := HLT.out; omega, by go_num, HRN.out, HBX2.out⟩
     case measure => have := HLT.out; simp [intOf]; omega
  ·obtain rfl : k = us.length := by omega
   have HLI := zpa hrow.list
   clear hrow hbx
   go_wp2
   go_ret
   exact ⟨_, _, rfl, HLI.out, by rw [← HOK.out] ; exact zm3 c HO.out (by rw [HOK.out]; exact HSD.out), HBW.out⟩
open Go.RowKit
theorem zbs (v v' : Value) (us us' : List (V.Hit × Sd)) (w : World) (hv : zcc w v us) (hv' : zcc w v' us') (he : us.map (·.1) = us'.map (·.1)) (hd : ∀ p ∈ us, p.1.docs.length ≤ 100000) (hl : us.length ≤ 1000000) :
  Calls Tryz.prog 16 #[v, v'] w fun e w' => e = .returned (.bool true) /\ Below w.heap.size w w' := by
 have HV := zpa hv
 have HV' := zpa hv'
 have HE := zpa he
 have HDD := zpa hd
 have hn : us'.length = us.length := by rw [← List.length_map (f := (·.1)), ← he, List.length_map]
 obtain ⟨va, vc, rfl⟩ := hv.1.slice
 obtain ⟨va', vc', rfl⟩ := hv'.1.slice
 rw [hn] at HV' ⊢
 have HN := zpa hn
 clear hv hv' he hd hn
 go_enter Tryz.func16, Tryz.ntmps16
 go_wp2
 go_loopw [5] (fun jv wx => ∃ j : Nat, j ≤ us.length /\ jv = .int .i64 j /\ Below w.heap.size w wx) (fun jv _ => us.length - (intOf jv).toNat)
 case atStart => exact ⟨0, Nat.zero_le _, rfl, zpd _ _⟩
 case round =>
  obtain ⟨j, hj, rfl, hbx⟩ := hrel
  have HBX := zpa hbx
  by_cases hlt : j < us.length
  ·have hlt' : j < us'.length := by rw [HN.out]; exact hlt
   obtain ⟨g, off, rfl, hg, hc⟩ := HV.out.1.at j hlt
   have hv9 : zcc w (.slice va' us'.length vc') us' := by rw [HN.out]; exact HV'.out
   obtain ⟨g2, off2, rfl, hg2, hc2⟩ := hv9.1.at j hlt'
   obtain ⟨p, hp⟩ : ∃ p : V.Hit × Sd, p = us[j] := ⟨_, rfl⟩
   obtain ⟨p2, hp2⟩ : ∃ p : V.Hit × Sd, p = us'[j] := ⟨_, rfl⟩
   have he : p.1 = p2.1 := by
    have h1 := congrArg (fun l : List V.Hit => l[j]?) HE.out
    simp only [List.getElem?_map, List.getElem?_eq_getElem hlt, List.getElem?_eq_getElem hlt', Option.map_some] at h1
    rw [hp, hp2]
    exact Option.some.inj h1
   have hd1 : Digs wr p.2.v p.1.docs := (HV.out.2 p (by rw [hp]; exact List.getElem_mem hlt)).below hbx
   have hd2 : Digs wr p2.2.v p2.1.docs := (HV'.out.2 p2 (by rw [hp2]; exact List.getElem_mem hlt')).below hbx
   have hdl : p.1.docs.length ≤ 100000 := HDD.out p (by rw [hp]; exact List.getElem_mem hlt)
   have hra : wr.rangeAt g (off + j * 4) (hE p) := by rw [hp]; exact zh (fun i u hu => hc i u hu) hbx
   have hrb : wr.rangeAt g2 (off2 + j * 4) (hE p2) := by rw [hp2]; exact zh (fun i u hu => hc2 i u hu) hbx
   clear hp hp2 hc hc2 hv9
   obtain ⟨⟨c0, b0, s0, ds⟩, ⟨sa, sn, sc⟩⟩ := p
   obtain ⟨q1, ⟨ta, tn, tc⟩⟩ := p2
   subst he
   have HDA : Hid (Digs wr (.slice sa sn sc) ds) := zpa hd1
   have HDB : Hid (Digs wr (.slice ta tn tc) ds) := zpa hd2
   have HDL : Hid (ds.length ≤ 100000) := zpa hdl
   have a0 : wr.cell? ⟨g, off + j * 4, none⟩ = some (.int .i64 c0) := hra 0 _ rfl
   have a1 : wr.cell? ⟨g, off + j * 4 + 1, none⟩ = some (.string ⟨b0.toArray⟩) := hra 1 _ rfl
   have a2 : wr.cell? ⟨g, off + j * 4 + 2, none⟩ = some (.int .i64 s0) := hra 2 _ rfl
   have a3 : wr.cell? ⟨g, off + j * 4 + 3, none⟩ = some (.slice sa sn sc) := hra 3 _ rfl
   have e0 : wr.cell? ⟨g2, off2 + j * 4, none⟩ = some (.int .i64 c0) := hrb 0 _ rfl
   have e1 : wr.cell? ⟨g2, off2 + j * 4 + 1, none⟩ = some (.string ⟨b0.toArray⟩) := hrb 1 _ rfl
   have e2 : wr.cell? ⟨g2, off2 + j * 4 + 2, none⟩ = some (.int .i64 s0) := hrb 2 _ rfl
   have e3 : wr.cell? ⟨g2, off2 + j * 4 + 3, none⟩ = some (.slice ta tn tc) := hrb 3 _ rfl
   have i1 : (0 : Int) ≤ (j : Int) := by omega
   have i2 : (j : Int) < (us.length : Int) := by omega
   clear hd1 hd2 hdl hra hrb hbx
   go_wp2_with fail
   refine wp_region_held_drew (S := (fun W' => Below wr.heap.size wr W' /\ W'.cell? ⟨g, off + j * 4, none⟩ = some (.int .i64 c0) /\ W'.cell? ⟨g, off + j * 4 + 1, none⟩ = some (.string ⟨b0.toArray⟩) /\ W'.cell? ⟨g, off + j * 4 + 2, none⟩ = some (.int .i64 s0) /\ W'.cell? ⟨g, off + j * 4 + 3, none⟩ = some (.slice sa sn sc) /\ W'.cell? ⟨g2, off2 + j * 4, none⟩ = some (.int .i64 c0) /\ W'.cell? ⟨g2, off2 + j * 4 + 1, none⟩ = some (.string ⟨b0.toArray⟩) /\ W'.cell? ⟨g2, off2 + j * 4 + 2, none⟩ = some (.int .i64 s0) /\ W'.cell? ⟨g2, off2 + j * 4 + 3, none⟩ = some (.slice ta tn tc))) (by kernel_rfl) (by (try dsimp only); exact ⟨(zpd _ _).drew, zg (zpd _ _).drew a0, zg (zpd _ _).drew a1, zg (zpd _ _).drew a2, zg (zpd _ _).drew a3, zg (zpd _ _).drew e0, zg (zpd _ _).drew e1, zg (zpd _ _).drew e2, zg (zpd _ _).drew e3⟩) (fun hHeld => ?_)
   refine tk 0 ?_
   refine tk 1 ?_
   refine tk 2 ?_
   refine tk 3 ?_
   refine tk 4 ?_
   refine tk 5 ?_
   refine tk 6 ?_
   refine tk 7 ?_
   refine rd 8 fun K hK => ?_
   go_simp
   refine (zjw c0 ⟨b0.toArray⟩ s0 (.slice sa sn sc) (.slice ta tn tc) ds _ (HDA.out.below (show Below wr.heap.size wr _ from (by first | assumption | exact And.left (by assumption)))) (HDB.out.below (show Below wr.heap.size wr _ from (by first | assumption | exact And.left (by assumption)))) HDL.out).mono ?_
   rintro e wq8 ⟨rfl, hbq8⟩
   try dsimp only
   refine hK.out _ _ ?_ (fun hHeld => nx ?_)
   ·(try dsimp only); go_split_ands; exact ⟨Below.trans (by assumption) (hbq8.mono (Below.size (by assumption))), zpg hbq8, zpg hbq8, zpg hbq8, zpg hbq8, zpg hbq8, zpg hbq8, zpg hbq8, zpg hbq8⟩
   clear hK K
   refine tk 9 ?_
   refine wpAnyH_done (by kernel_rfl) ?_ _
   have HB9 := zpa (HBX.out.trans (hHeld.1.mono HBX.out.size))
   clear hHeld a0 a1 a2 a3 e0 e1 e2 e3
   go_wp2
   go_roundw
   case rel => exact ⟨j + 1, by omega, by go_num, HB9.out⟩
   case measure => simp [intOf]; omega
  ·obtain rfl : j = us.length := by omega
   clear hbx
   go_wp2
   go_ret
   exact ⟨rfl, HBX.out⟩
def FewPost (n m : Nat) (w : World) (e : Ending) (w' : World) : Prop := ∃ b : Bool, e = .returned (.bool b) /\ (b = true -> n ≤ 12 /\ m ≤ 8) /\ Below w.heap.size w w'
theorem zrl {P : Prop} (h : P := by
 go_wp2
 go_ret
 exact ⟨false, rfl, fun h => by simp at h, HBW.out⟩) : P := h
theorem zo4 (d : List Int) (time : Int) (v : Value) (l : List V.Comp) (nv : Value) (xs : List NV) (w : World) (hd : d.length = 32) (hv : Comps w v l) (hn : Notes w nv xs) (hx : xs.length ≤ maxLen) (hk : ∀ x ∈ xs, ∃ a n c, x.k = .slice a n c) :
  Calls Tryz.prog 22 #[.agg (icells d time v), nv] w (FewPost l.length xs.length w) := by
 have h33 := xq hd time v
 obtain ⟨va, vc, rfl, hjunk⟩ := hv
 obtain ⟨na, nc, rfl⟩ := hn.slice
 have hx33 : (w.alloc (.cells (icells d time (.slice va l.length vc)) 29)).cell? ⟨w.heap.size, 33, none⟩ = some (.slice va l.length vc) := by rw [World.cell?_alloc_new]; exact h33
 have hz0 : w.heap.size < (w.alloc (.cells (icells d time (.slice va l.length vc)) 29)).heap.size := by simp
 have hb0 : Below w.heap.size w (w.alloc (.cells (icells d time (.slice va l.length vc)) 29)) := (zpd w.heap.size w).alloc (zpc _) _
 have HB0 := zpa hb0
 have HN := zpa (hn.below hb0)
 have HK := zpa hk
 have HX33 := zpa hx33
 have HZ0 := zpa hz0
 unfold maxLen at hx
 clear hd hjunk h33 hn hk hb0 hz0 hx33
 generalize icells d time (.slice va l.length vc) = ic at *
 go_enter Tryz.func22, Tryz.ntmps22
 go_wp2_with fail
 generalize w.alloc (.cells ic 29) = W0 at *
 go_loopw [5] (fun iv wx => ∃ k : Nat, k ≤ xs.length /\ iv = .int .i64 k /\ Below W0.heap.size W0 wx) (fun iv _ => xs.length - (intOf iv).toNat)
 case atStart => exact ⟨0, Nat.zero_le _, rfl, zpd _ _⟩
 case round =>
  obtain ⟨k, hk, rfl, hbx⟩ := hrel
  have HBW := zpb HB0 hbx
  by_cases hlt : k < xs.length
  ·obtain ⟨hok, g, off, hna, hg, hr⟩ := (HN.out.below hbx).at k hlt
   subst hna
   obtain ⟨_, _, _, c3, _, c36⟩ := je hok.doc hr
   obtain ⟨ka, kn, kc, hke⟩ := HK.out _ (List.getElem_mem hlt)
   obtain ⟨ua, uc, hue⟩ := hok.affs.slice
   rw [hue] at c3
   rw [hke] at c36
   have HBX := zpa hbx
   have i1 : (0 : Int) ≤ (k : Int) := by omega
   have i2 : (k : Int) < (xs.length : Int) := by omega
   clear hok hr hke hue hbx
   generalize xs[k].n.adv.aff.length = an at *
   by_cases ha : (6 : Int) < (an : Int)
   ·exact zrl
   ·by_cases hb : (10 : Int) < (kn : Int)
    ·exact zrl
    ·go_wp2
     go_roundw
     case rel => exact ⟨k + 1, by omega, by go_num, HBX.out⟩
     case measure => simp [intOf]; omega
  ·obtain rfl : k = xs.length := by omega
   have hr33 := (hbx.cell (p := ⟨w.heap.size, 33, none⟩) HZ0.out).trans HX33.out
   clear hbx
   by_cases h1 : (l.length : Int) ≤ 12
   ·by_cases h2 : (xs.length : Int) ≤ 8
    ·have HE : Hid (l.length ≤ 12 /\ xs.length ≤ 8) := zpa ⟨by omega, by omega⟩
     go_wp2
     go_ret
     exact ⟨true, rfl, fun _ => HE.out, HBW.out⟩
    ·exact zrl
   ·exact zrl
open Go.RowKit
open Go.RowKit
structure IV where
 d : List Int
 t : Int
 v : Value
 l : List V.Comp
end Go.Proofs.YtbikeahmldobkaaGreatDoor
