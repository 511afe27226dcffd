/-
  Lemmas for the law.
-/
import Derived.Test.YtbikeahmldobkaaGreatDoorC41x44
set_option linter.all false
set_option maxRecDepth 100000
set_option maxHeartbeats 3200000
namespace Go.Proofs.YtbikeahmldobkaaGreatDoor
open Go.RowKit
theorem zp1 {P : Prop} (h : P := by
 clear c1 c2
 go_enter Tryz.func31, Tryz.ntmps31
 go_wp2_with (first | (refine wpList_load_mid rfl 26 _ rfl w.heap.size 0 rfl (zk d) _ HR.out Tryz.underlying26 rfl HI.out ?_) | (refine wn rfl 26 26 _ _ rfl (dcells d) (dcells qh) rfl rfl jo false (HQ.out _) ?_) | fail)
 refine (vv time _).mono ?_
 rintro e w1 ⟨rfl, rfl⟩
 rw [HIN.out]
 go_wp2
 go_ret
 exact ⟨zf HV.out.symm, HB0.out⟩) : P := h
theorem zsj {P : Prop} (h : P := by
 clear hok
 go_wp2
 go_ret
 exact ⟨zf HF.out.symm, HBE.out _ HB2.out⟩) : P := h
theorem zc2 (d : List Int) (time : Int) (v : Value) (l : List V.Comp) (w : World) (hm : zm w) (hd : d.length = 32) (hdw : ∀ n ∈ d, (Lit.int .u8 n).wf = true) (hv : Comps w v l) (hl : l.length ≤ maxLen) :
  Calls Tryz.prog 31 #[.agg (icells d time v)] w fun e w' => e = .returned (.bool (V.qc d time l)) /\ Below w.heap.size w w' := by
 have HM := zpa hm
 have HL := zpa hv
 have h32 := zhc hd time v
 have h33 := xq hd time v
 have HR := zpa (zcu w 29 time v hd)
 have HI : Hid ((Tryz.prog.info? 26).map (·.size) = some (zk d).length) := zpa (by rw [zch]; unfold zk; simp [hd])
 have HQ : Hid (∀ w, (Op.equalIn 10000 26 (.agg (dcells d)) (.agg (dcells qh))).run Tryz.prog w = .ok (decide (d = qh)) w) := zpa (fun w => zim hd hdw (by decide) (by decide) w)
 obtain ⟨va, vc, rfl, _⟩ := hv
 unfold maxLen at hl
 clear hm hd hdw
 generalize icells d time (.slice va l.length vc) = ic at *
 have HB0 : Hid (Below w.heap.size w (w.alloc (.cells ic 29))) := zpa ((zpd _ w).alloc (zpc _) _)
 by_cases c1 : d = qh
 ·have HV := zpa (xy (time := time) (l := l) (.inl c1))
  have HD : Hid (decide (d = qh) = true) := zpa (decide_eq_true c1)
  clear c1
  rw [HD.out] at HQ
  go_enter Tryz.func31, Tryz.ntmps31
  go_wp2_with (first | (refine wpList_load_mid rfl 26 _ rfl w.heap.size 0 rfl (zk d) _ HR.out Tryz.underlying26 rfl HI.out ?_) | (refine wn rfl 26 26 _ _ rfl (dcells d) (dcells qh) rfl rfl jo true (HQ.out _) ?_) | fail)
  go_ret
  exact ⟨zf HV.out.symm, HB0.out⟩
 ·have HD : Hid (decide (d = qh) = false) := zpa (decide_eq_false c1)
  rw [HD.out] at HQ
  by_cases c2 : 0 ≤ time /\ time ≤ 1099511627776
  ·have HIN : Hid ((decide (0 ≤ time) && decide (time ≤ 1099511627776)) = true) := zpa (by rw [decide_eq_true c2.1, decide_eq_true c2.2]; rfl)
   by_cases c4 : 128 < l.length
   ·have HV := zpa (xy (d := d) (time := time) (.inr (.inr (.inr c4))))
    exact zp1
   ·have HV := zpa (zj7 c1 (show ¬ time < 0 by omega) (show ¬ 1099511627776 < time by omega) c4)
    have c4' : l.length ≤ 128 := by omega
    clear c1 c2 hl
    go_enter Tryz.func31, Tryz.ntmps31
    go_wp2_with (first | (refine wpList_load_mid rfl 26 _ rfl w.heap.size 0 rfl (zk d) _ HR.out Tryz.underlying26 rfl HI.out ?_) | (refine wn rfl 26 26 _ _ rfl (dcells d) (dcells qh) rfl rfl jo false (HQ.out _) ?_) | fail)
    refine (vv time _).mono ?_
    rintro e w1 ⟨rfl, rfl⟩
    rw [HIN.out]
    have hw33 : (w.alloc (.cells ic 29)).cell? ⟨w.heap.size, 33, none⟩ = some (.slice va l.length vc) := by rw [World.cell?_alloc_new]; exact h33
    have hzz : w.heap.size < (w.alloc (.cells ic 29)).heap.size := by simp
    clear h32 h33 HR HI HQ HD HIN
    generalize w.alloc (.cells ic 29) = W0 at *
    go_wp2
    go_loopw [3] (fun i wr => ∃ k : Nat, k ≤ l.length /\ i = .int .i64 k /\ V.zy l k = true /\ Below W0.heap.size W0 wr) (fun i _ => l.length - (intOf i).toNat)
    case atStart => exact ⟨0, Nat.zero_le _, rfl, rfl, zpd _ _⟩
    case round =>
     obtain ⟨k, hk, rfl, hto, hbr⟩ := hrel
     have HTO := zpa hto
     have hr33 := (hbr.cell (p := ⟨w.heap.size, 33, none⟩) hzz).trans hw33
     have HBR := zpa hbr
     have hzr : W0.heap.size ≤ wr.heap.size := hbr.size
     clear hto hbr
     by_cases hlt : k < l.length
     ·obtain ⟨hxw, b, off, rfl, hblt, hxr⟩ := HL.out.at k hlt
      have HST := zpa (V.yl hlt)
      have HSTOP := zpa (zkx hlt)
      have hca : V.uu l k l[k] = (V.yd l[k] && (decide (-1 ≤ l[k].par) && (decide (l[k].par < k) && !decide (l[k] ∈ l.take k)))) := rfl
      have HCA := zpa hca
      have HX := zpa hxw
      have HXR := zpa (zh (zh hxr HB0.out) HBR.out)
      have hi1 : (0 : Int) ≤ (k : Int) := by omega
      have hi2 : (k : Int) < (l.length : Int) := by omega
      clear hxw hxr hca
      generalize l[k] = x at *
      have hpr := wf_rng HX.out.par
      have h1 := vd x wr 60
      have hb1 : Below W0.heap.size W0 (wr.alloc (.cells (ccells x) 60)) := HBR.out.alloc HBR.out.size _
      have hz1 : wr.heap.size < (wr.alloc (.cells (ccells x) 60)).heap.size := by simp
      have H1 := zpa h1
      have HB1 := zpa hb1
      clear h1 hb1
      go_wp2_with (first | (refine vt rfl _ rfl b (off + k * 36) rfl x HX.out HXR.out ?_) | (refine zb7 rfl _ _ rfl _ _ rfl x HX.out rfl rfl ?_; generalize wr.alloc (.cells (ccells x) 60) = w1 at *; generalize wr.heap.size = X at *) | (refine vt rfl _ rfl X 0 rfl x HX.out H1.out ?_) | fail)
      refine (zfl x _ (HM.out.below (HB0.out.trans (HB1.out.mono (by have := HB0.out.size; omega)))) HX.out).mono ?_
      rintro e w2 ⟨rfl, hb2⟩
      have HB2 := zpb HB1 hb2
      have hx2 := zh H1.out hb2
      have x0 : w2.cell? ⟨X, 0, none⟩ = some (.int .i64 x.par) := hx2 0 _ rfl
      have HX2 := zpa hx2
      have hz2 : X < w2.heap.size := Nat.lt_of_lt_of_le hz1 hb2.size
      have HBE : Hid (∀ W, Below W0.heap.size W0 W -> Below w.heap.size w W) := zpa (fun W h => HB0.out.trans (h.mono HB0.out.size))
      clear hz1 hb2 hx2 hr33
      rcases hok : V.yd x with _ | _
      ·have HF : Hid (V.qc d time l = false) := zpa (by rw [HV.out]; exact HSTOP.out (by rw [HCA.out, hok]; rfl))
       exact zsj
      ·by_cases p1 : x.par < -1
       ·have HF : Hid (V.qc d time l = false) := zpa (by rw [HV.out]; exact HSTOP.out (by rw [HCA.out, decide_eq_false (show ¬ -1 ≤ x.par by omega)]; simp))
        exact zsj
       ·by_cases p2 : x.par < (k : Int)
        ·have q1 : decide (x.par < -1) = false := decide_eq_false p1
         have q2 : decide ((k : Int) ≤ x.par) = false := decide_eq_false (by omega)
         have HCB : Hid (V.uu l k x = !decide (x ∈ l.take k)) := zpa (by rw [HCA.out, hok, decide_eq_true (show -1 ≤ x.par by omega), decide_eq_true p2]; rfl)
         clear hok HCA
         go_wp2
         clear x0
         go_loopw [5] (fun jv wx => ∃ j : Nat, j ≤ k /\ jv = .int .i64 j /\ x ∉ l.take j /\ Below w2.heap.size w2 wx) (fun jv _ => k - (intOf jv).toNat)
         case atStart => exact ⟨0, Nat.zero_le _, rfl, by simp, zpd _ _⟩
         case round =>
          obtain ⟨j, hj, rfl, hnm, hbx⟩ := hrel
          have HBX := zpa hbx
          have HNM := zpa hnm
          clear hbx hnm
          by_cases hjk : j < k
          ·obtain ⟨hdw, g2, off2, he2, hgl, hgr⟩ := HL.out.at j (show j < l.length by omega)
           cases he2
           have HDW := zpa hdw
           have HDR := zpa (zh (zh (zh (zh hgr HB0.out) HB2.out) HBX.out) (zpd _ wr).drew)
           have HXD := zpa (zh (zh HX2.out HBX.out) (zpd _ wr).drew)
           have hd33 := (((HB2.out.trans (HBX.out.mono HB2.out.size)).drew).cell (p := ⟨w.heap.size, 33, none⟩) hzz).trans hw33
           have hjl : j < l.length := by omega
           have HTS : Hid (x ∉ l.take j -> ¬ l[j] = x -> x ∉ l.take (j + 1)) := zpa (fun h1 h2 => by
             rw [List.take_succ_eq_append_getElem hjl, List.mem_append, List.mem_singleton]
             exact fun h => h.elim h1 (fun e => h2 e.symm))
           have HIN : Hid (l[j] ∈ l.take k) := zpa (by
             rw [show l[j] = (l.take k)[j]'(by simp; omega) by rw [List.getElem_take]]
             exact List.getElem_mem _)
           have hi3 : (0 : Int) ≤ (j : Int) := by omega
           have hi4 : (j : Int) < (l.length : Int) := by omega
           clear hdw hgr
           generalize l[j] = y at *
           go_wp2
           refine wp_region_still_lit (by kernel_rfl) (by kernel_rfl) ?_
           still_step
           still_step
           still_step
           still_step
           refine wpStill_step (fun K hK => ?_)
           refine zeu rfl (.tmp 56) rfl b (off + j * 36) rfl y HDW.out HDR.out (hK _ ?_)
           clear hK K
           refine wpStill_step (fun K hK => ?_)
           refine zeu rfl (.tmp 4) rfl X 0 rfl x HX.out HXD.out (hK _ ?_)
           clear hK K
           refine wpStill_step (fun K hK => ?_)
           refine zoz rfl (.tmp 57) (.tmp 58) rfl y x HDW.out HX.out rfl rfl (hK _ ?_)
           clear hK K
           refine wpStill_nil ?_
           have HBD := zpa HBX.out.drew
           change Exit.then _ _ _ _ wr.drew
           clear hd33
           rcases hcd : decide (y = x) with _ | _
           ·have HNE : Hid (¬ y = x) := zpa (of_decide_eq_false hcd)
            clear hcd
            go_wp2
            go_roundw
            case rel => exact ⟨j + 1, by omega, by go_num, HTS.out HNM.out HNE.out, HBD.out⟩
            case measure => simp [intOf]; omega
           ·have HE := zpa (of_decide_eq_true hcd)
            have HF : Hid (V.qc d time l = false) := zpa (by rw [HV.out]; exact HSTOP.out (by rw [HCB.out, decide_eq_true (by rw [← HE.out]; exact HIN.out)]; rfl))
            clear hcd
            go_wp2
            go_ret
            exact ⟨zf HF.out.symm, HBE.out _ (HB2.out.trans (HBD.out.mono HB2.out.size))⟩
          ·obtain rfl : j = k := by omega
           have HN : Hid (V.zy l (j + 1) = true) := zpa (by rw [HST.out, HTO.out, HCB.out, decide_eq_false HNM.out]; rfl)
           have HB3 := zpa (HB2.out.trans (HBX.out.mono HB2.out.size))
           go_wp2
           go_roundw
           case rel => exact ⟨j + 1, by omega, by go_num, HN.out, HB3.out⟩
           case measure => simp [intOf]; omega
        ·have HF : Hid (V.qc d time l = false) := zpa (by rw [HV.out]; exact HSTOP.out (by rw [HCA.out, decide_eq_false p2]; simp))
         exact zsj
     ·obtain rfl : k = l.length := by omega
      have HT : Hid (V.qc d time l = true) := zpa (by rw [HV.out]; exact HTO.out)
      have HB3 := zpa (HB0.out.trans (HBR.out.mono HB0.out.size))
      go_wp2
      go_ret
      exact ⟨zf HT.out.symm, HB3.out⟩
  ·have HIN : Hid ((decide (0 ≤ time) && decide (time ≤ 1099511627776)) = false) := zpa (by
     by_cases p : 0 ≤ time
     · rw [decide_eq_false (show ¬ time ≤ 1099511627776 from fun q => c2 ⟨p, q⟩)]; simp
     · rw [decide_eq_false p]; rfl)
   have HV : Hid (V.qc d time l = false) := zpa (by
     by_cases p : 0 ≤ time
     · exact xy (.inr (.inr (.inl (by have := fun q => c2 ⟨p, q⟩; omega))))
     · exact xy (.inr (.inl (by omega))))
   exact zp1
end Go.Proofs.YtbikeahmldobkaaGreatDoor
