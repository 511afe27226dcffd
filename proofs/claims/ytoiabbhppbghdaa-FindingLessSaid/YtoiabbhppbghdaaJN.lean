/-
  Walk: inventory.Valid, of any inventory.
-/
import Derived.Test.YtoiabbhppbghdaaJM
import Derived.Test.YtoiabbhppbghdaaJP
namespace Go.Proofs.Ytoiabbhppbghdaa
open Go.RowKit

theorem icells_32 {d : List Int} (hd : d.length = 32) (time : Int) (v : Value) : (icells d time v)[32]? = some (.int .i64 time) := by
  unfold icells dcellsL
  simp [hd]
theorem icells_33 {d : List Int} (hd : d.length = 32) (time : Int) (v : Value) : (icells d time v)[33]? = some v := by
  unfold icells dcellsL
  simp [hd]

theorem inv_head {d : List Int} {time : Int} {l : List V.Comp} (h : d = zero32 ∨ time < 0 ∨ 1099511627776 < time ∨ 128 < l.length) : V.invOk d time l = false := by
  have : V.headOk d time l = false := by
    unfold V.headOk
    rcases h with h | h | h | h
    · have : decide (d = List.replicate 32 0) = true := decide_eq_true h
      rw [this]; rfl
    · have : decide (0 ≤ time) = false := decide_eq_false (by omega)
      rw [this]; simp
    · have : decide (time ≤ 1099511627776) = false := decide_eq_false (by omega)
      rw [this]; simp
    · have : decide (l.length ≤ 128) = false := decide_eq_false (by omega)
      rw [this]; simp
  unfold V.invOk; rw [this]; rfl
theorem inv_rest {d : List Int} {time : Int} {l : List V.Comp} (h1 : ¬ d = zero32) (h2 : ¬ time < 0) (h3 : ¬ 1099511627776 < time) (h4 : ¬ 128 < l.length) : V.invOk d time l = V.compsTo l l.length := by
  have : V.headOk d time l = true := by
    unfold V.headOk
    have a1 : decide (d = List.replicate 32 0) = false := decide_eq_false h1
    have a2 : decide (0 ≤ time) = true := decide_eq_true (by omega)
    have a3 : decide (time ≤ 1099511627776) = true := decide_eq_true (by omega)
    have a4 : decide (l.length ≤ 128) = true := decide_eq_true (by omega)
    rw [a1, a2, a3, a4]; rfl
  unfold V.invOk; rw [this]; rfl
theorem inv_stop {l : List V.Comp} {k : Nat} (hk : k < l.length) (h : V.compAt l k l[k] = false) : V.compsTo l l.length = false :=
  V.compsTo_false (k := k + 1) (by omega) (by rw [V.compsTo_step hk, h]; simp)

set_option maxRecDepth 100000 in
set_option maxHeartbeats 3200000 in
theorem valid19_any (d : List Int) (time : Int) (v : Value) (l : List V.Comp) (w : World) (hm : MaxOk w) (hd : d.length = 32) (hdw : ∀ n ∈ d, (Lit.int .u8 n).wf = true) (hv : Comps w v l) (hl : l.length ≤ maxLen) :
    Calls Try.prog 31 #[.agg (icells d time v)] w fun e w' => e = .returned (.bool (V.invOk d time l)) ∧ Below w.heap.size w w' := by
  have HM := Lib.hid hm
  have HL := Lib.hid hv
  have h32 := icells_32 hd time v
  have h33 := icells_33 hd time v
  have HR := Lib.hid (icells_range w 41 time v hd)
  have HI : Hid ((Try.prog.info? 24).map (·.size) = some (dcellsL d).length) := Lib.hid (by rw [digInfo]; unfold dcellsL; simp [hd])
  have HQ : Hid (∀ w, (Op.equalIn 10000 24 (.agg (dcells d)) (.agg (dcells zero32))).run Try.prog w = .ok (decide (d = zero32)) w) := Lib.hid (fun w => eq_dig hd hdw (by decide) (by decide) w)
  have hmm := @run_makeMap Try.prog
  obtain ⟨va, vc, rfl, _⟩ := hv
  unfold maxLen at hl
  clear hm hd hdw
  generalize icells d time (.slice va l.length vc) = ic at *
  by_cases c1 : d = zero32
  · have HV := Lib.hid (inv_head (time := time) (l := l) (.inl c1))
    have HD : Hid (decide (d = zero32) = true) := Lib.hid (decide_eq_true c1)
    clear c1
    rw [HD.out] at HQ
    go_enter Try.func31, Try.ntmps31
    go_wp2_with (first | (refine wpList_load_mid rfl 24 _ rfl w.heap.size 0 rfl (dcellsL d) _ HR.out Try.underlying24 rfl HI.out ?_) | (refine wl_eql rfl 24 24 _ _ rfl (dcells d) (dcells zero32) rfl rfl guard_dig true (HQ.out _) ?_) | fail)
    go_ret
    exact ⟨ret_bool HV.out.symm, (Below.refl _ w).alloc (Nat.le_refl _) _⟩
  · have HD : Hid (decide (d = zero32) = false) := Lib.hid (decide_eq_false c1)
    rw [HD.out] at HQ
    by_cases c2 : time < 0
    · have HV := Lib.hid (inv_head (d := d) (l := l) (.inr (.inl c2)))
      clear c1
      go_enter Try.func31, Try.ntmps31
      go_wp2_with (first | (refine wpList_load_mid rfl 24 _ rfl w.heap.size 0 rfl (dcellsL d) _ HR.out Try.underlying24 rfl HI.out ?_) | (refine wl_eql rfl 24 24 _ _ rfl (dcells d) (dcells zero32) rfl rfl guard_dig false (HQ.out _) ?_) | fail)
      go_ret
      exact ⟨ret_bool HV.out.symm, (Below.refl _ w).alloc (Nat.le_refl _) _⟩
    · by_cases c3 : 1099511627776 < time
      · have HV := Lib.hid (inv_head (d := d) (l := l) (.inr (.inr (.inl c3))))
        clear c1
        go_enter Try.func31, Try.ntmps31
        go_wp2_with (first | (refine wpList_load_mid rfl 24 _ rfl w.heap.size 0 rfl (dcellsL d) _ HR.out Try.underlying24 rfl HI.out ?_) | (refine wl_eql rfl 24 24 _ _ rfl (dcells d) (dcells zero32) rfl rfl guard_dig false (HQ.out _) ?_) | fail)
        go_ret
        exact ⟨ret_bool HV.out.symm, (Below.refl _ w).alloc (Nat.le_refl _) _⟩
      · by_cases c4 : 128 < l.length
        · have HV := Lib.hid (inv_head (d := d) (time := time) (.inr (.inr (.inr c4))))
          clear c1
          go_enter Try.func31, Try.ntmps31
          go_wp2_with (first | (refine wpList_load_mid rfl 24 _ rfl w.heap.size 0 rfl (dcellsL d) _ HR.out Try.underlying24 rfl HI.out ?_) | (refine wl_eql rfl 24 24 _ _ rfl (dcells d) (dcells zero32) rfl rfl guard_dig false (HQ.out _) ?_) | fail)
          go_ret
          exact ⟨ret_bool HV.out.symm, (Below.refl _ w).alloc (Nat.le_refl _) _⟩
        · have HV := Lib.hid (inv_rest c1 c2 c3 c4)
          have c4' : l.length ≤ 128 := by omega
          have HMP := Lib.hid (CMap.made (w.alloc (.cells ic 41)))
          have HB0 : Hid (Below w.heap.size w ((w.alloc (.cells ic 41)).alloc (.map #[] 0))) := Lib.hid (((Below.refl _ w).alloc (Nat.le_refl _) _).alloc (by simp) _)
          clear c1 hl
          go_enter Try.func31, Try.ntmps31
          go_wp2_with (first | (refine wpList_load_mid rfl 24 _ rfl w.heap.size 0 rfl (dcellsL d) _ HR.out Try.underlying24 rfl HI.out ?_) | (refine wl_eql rfl 24 24 _ _ rfl (dcells d) (dcells zero32) rfl rfl guard_dig false (HQ.out _) ?_) | fail)
          have hmp : CMap ((w.alloc (.cells ic 41)).alloc (.map #[] 0)) (w.heap.size + 1) 0 [] := by have := HMP.out; simpa using this
          have hzz : w.heap.size + 1 < ((w.alloc (.cells ic 41)).alloc (.map #[] 0)).heap.size := by simp
          have HB1 := HB0
          clear HMP HB0 h32 h33 HR HI HQ hmm HD
          go_loopw [30] (fun i wr => ∃ k : Nat, k ≤ l.length ∧ i = .int .i64 k ∧ V.compsTo l k = true ∧ CMap wr (w.heap.size + 1) k (l.take k) ∧ w.heap.size + 1 < wr.heap.size ∧ Below w.heap.size w wr) (fun i _ => l.length - (intOf i).toNat)
          case atStart => exact ⟨0, Nat.zero_le _, rfl, rfl, hmp, hzz, HB1.out⟩
          case round =>
            obtain ⟨k, hk, rfl, hto, hcm, hzr, hbr⟩ := hrel
            have HTO := Lib.hid hto
            have HCM := Lib.hid hcm
            have HBR := Lib.hid hbr
            clear hto hcm hbr hmp
            by_cases hlt : k < l.length
            · obtain ⟨hxw, b, off, rfl, hblt, hxr⟩ := HL.out.at k hlt
              have HST := Lib.hid (V.compsTo_step hlt)
              have HSTOP := Lib.hid (inv_stop hlt)
              have HTAKE : Hid (l.take (k + 1) = l.take k ++ [l[k]]) := Lib.hid (List.take_succ_eq_append_getElem hlt)
              have hca : V.compAt l k l[k] = (V.compOk l[k] && (decide (-1 ≤ l[k].par) && (decide (l[k].par < k) && !decide (l[k] ∈ l.take k)))) := rfl
              have HCA := Lib.hid hca
              have HX := Lib.hid hxw
              have HXR := Lib.hid (rangeAt_below hxr HBR.out)
              clear hxw hxr hca
              generalize l[k] = x at *
              have x0 := ccells_0 x
              go_wp2_with (first | (refine wl_load rfl _ rfl b (off + k * 36) rfl x HX.out HXR.out ?_) | (refine wl_store rfl _ _ rfl _ _ rfl x HX.out rfl rfl ?_) | (refine wl_load rfl _ rfl wr.heap.size 0 rfl x HX.out (range_new x wr _) ?_) | fail)
              have hb1 : Below w.heap.size w (wr.alloc (.cells (ccells x) 47)) := HBR.out.alloc HBR.out.size _
              have hcm1 : CMap (wr.alloc (.cells (ccells x) 47)) (w.heap.size + 1) k (l.take k) := HCM.out.kept ((Below.refl _ wr).alloc (Nat.le_refl _) _)
              have hx1 := range_new x wr 47
              have hz1 : wr.heap.size < (wr.alloc (.cells (ccells x) 47)).heap.size := by simp
              generalize wr.alloc (.cells (ccells x) 47) = w1 at *
              obtain ⟨X, hXe⟩ : ∃ X, X = wr.heap.size := ⟨_, rfl⟩
              rw [← hXe] at hx1 hz1 hzr ⊢
              clear hXe x0
              refine (component_any x _ (HM.out.below hb1) HX.out).mono ?_
              rintro e w2 ⟨rfl, hb2⟩
              have HB2 := Lib.hid (hb1.trans (hb2.mono hb1.size))
              have HCM2 := Lib.hid (hcm1.kept hb2)
              have hx2 := rangeAt_below hx1 hb2
              have x0 : w2.cell? ⟨X, 0, none⟩ = some (.int .i64 x.par) := hx2 0 _ rfl
              have HX2 := Lib.hid hx2
              have hz2 : X < w2.heap.size := Nat.lt_of_lt_of_le hz1 hb2.size
              have hpr := wf_rng HX.out.par
              clear hb1 hcm1 hx1 hz1 hb2 hx2
              rcases hok : V.compOk x with _ | _
              · have HF : Hid (V.invOk d time l = false) := Lib.hid (by rw [HV.out]; exact HSTOP.out (by rw [HCA.out, hok]; rfl))
                clear hok
                go_wp2
                go_ret
                exact ⟨ret_bool HF.out.symm, HB2.out⟩
              · by_cases p1 : x.par < -1
                · have HF : Hid (V.invOk d time l = false) := Lib.hid (by rw [HV.out]; exact HSTOP.out (by rw [HCA.out, decide_eq_false (show ¬ -1 ≤ x.par by omega)]; simp))
                  clear hok
                  go_wp2
                  go_ret
                  exact ⟨ret_bool HF.out.symm, HB2.out⟩
                · by_cases p2 : x.par < (k : Int)
                  · have q1 : decide (x.par < -1) = false := decide_eq_false p1
                    have q2 : decide ((k : Int) ≤ x.par) = false := decide_eq_false (by omega)
                    by_cases p3 : x ∈ l.take k
                    · have HF : Hid (V.invOk d time l = false) := Lib.hid (by rw [HV.out]; exact HSTOP.out (by rw [HCA.out, decide_eq_true p3]; simp))
                      have HP3 : Hid (decide (x ∈ l.take k) = true) := Lib.hid (decide_eq_true p3)
                      clear hok p3
                      go_wp2_with (first | (refine wg_load rfl _ rfl X 0 rfl x HX.out HX2.out ?_) | (refine wg_lookup rfl _ _ rfl (w.heap.size + 1) k (l.take k) rfl HCM2.out x HX.out rfl ?_; rw [HP3.out]) | fail)
                      go_ret
                      exact ⟨ret_bool HF.out.symm, HB2.out⟩
                    · have HN : Hid (V.compsTo l (k + 1) = true) := Lib.hid (by
                        rw [HST.out, HTO.out, HCA.out, hok, decide_eq_true (show -1 ≤ x.par by omega), decide_eq_true p2, decide_eq_false p3]; rfl)
                      have HP3 : Hid (decide (x ∈ l.take k) = false) := Lib.hid (decide_eq_false p3)
                      clear hok p3
                      go_wp2_with (first | (refine wg_load rfl _ rfl X 0 rfl x HX.out HX2.out ?_) | (refine wg_lookup rfl _ _ rfl (w.heap.size + 1) k (l.take k) rfl HCM2.out x HX.out rfl ?_; rw [HP3.out]) | (refine wl_update rfl _ _ _ rfl (w.heap.size + 1) k (l.take k) rfl HCM2.out (by unfold maxLen; omega) x HX.out rfl rfl ?_; intro w3 hm3 hg3) | fail)
                      rw [← HTAKE.out] at hm3
                      have HM3 := Lib.hid hm3
                      have HB3 := Lib.hid (HB2.out.trans (grown_below hg3 (by omega) HB2.out.size))
                      have hz3 : w.heap.size + 1 < w3.heap.size := Nat.lt_of_lt_of_le (by omega) hg3.size
                      clear hm3 hg3
                      go_wp2
                      go_roundw
                      case rel => exact ⟨k + 1, by omega, by go_num, HN.out, HM3.out, hz3, HB3.out⟩
                      case measure => simp [intOf]; omega
                  · have HF : Hid (V.invOk d time l = false) := Lib.hid (by rw [HV.out]; exact HSTOP.out (by rw [HCA.out, decide_eq_false p2]; simp))
                    clear hok
                    go_wp2
                    go_ret
                    exact ⟨ret_bool HF.out.symm, HB2.out⟩
            · obtain rfl : k = l.length := by omega
              have HT : Hid (V.invOk d time l = true) := Lib.hid (by rw [HV.out]; exact HTO.out)
              go_wp2
              go_ret
              exact ⟨ret_bool HT.out.symm, HBR.out⟩
end Go.Proofs.Ytoiabbhppbghdaa
