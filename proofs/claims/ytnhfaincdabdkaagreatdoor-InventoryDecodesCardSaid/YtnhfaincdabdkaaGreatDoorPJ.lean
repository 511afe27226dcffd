/-
  Walk: inventory.Valid, of any inventory.
  Plain: the lines of an inventory; they are within the limits. How the variables that both Encodes read are kept.
  Plain: inventories read from lines.
-/
import Derived.Test.YtnhfaincdabdkaaGreatDoorJM
import Derived.Test.YtnhfaincdabdkaaGreatDoorJP
import Derived.Test.YtnhfaincdabdkaaGreatDoorDK
import Derived.Test.YtnhfaincdabdkaaGreatDoorDG
import Derived.Test.YtnhfaincdabdkaaGreatDoorPG
import Derived.Test.YtnhfaincdabdkaaGreatDoorV7
import Derived.Test.YtnhfaincdabdkaaGreatDoorP3
import Derived.Test.YtnhfaincdabdkaaGreatDoorDC
namespace Go.Proofs.YtnhfaincdabdkaaGreatDoor
open Go.RowKit

theorem icells_32 {d : List Int} (hd : d.length = 32) (time : Int) (v : Value) : (icells d time v)[32]? = some (.int .i64 time) := by
  unfold icells dcellsL
  simp [hd]
theorem icells_33 {d : List Int} (hd : d.length = 32) (time : Int) (v : Value) : (icells d time v)[33]? = some v := by
  unfold icells dcellsL
  simp [hd]

theorem inv_head {d : List Int} {time : Int} {l : List V.Comp} (h : d = zero32 ∨ time < 0 ∨ 1099511627776 < time ∨ 128 < l.length) : V.invOk d time l = false := by
  have : V.headOk d time l = false := by
    unfold V.headOk
    rcases h with h | h | h | h
    · have : decide (d = List.replicate 32 0) = true := decide_eq_true h
      rw [this]; rfl
    · have : decide (0 ≤ time) = false := decide_eq_false (by omega)
      rw [this]; simp
    · have : decide (time ≤ 1099511627776) = false := decide_eq_false (by omega)
      rw [this]; simp
    · have : decide (l.length ≤ 128) = false := decide_eq_false (by omega)
      rw [this]; simp
  unfold V.invOk; rw [this]; rfl
theorem inv_rest {d : List Int} {time : Int} {l : List V.Comp} (h1 : ¬ d = zero32) (h2 : ¬ time < 0) (h3 : ¬ 1099511627776 < time) (h4 : ¬ 128 < l.length) : V.invOk d time l = V.compsTo l l.length := by
  have : V.headOk d time l = true := by
    unfold V.headOk
    have a1 : decide (d = List.replicate 32 0) = false := decide_eq_false h1
    have a2 : decide (0 ≤ time) = true := decide_eq_true (by omega)
    have a3 : decide (time ≤ 1099511627776) = true := decide_eq_true (by omega)
    have a4 : decide (l.length ≤ 128) = true := decide_eq_true (by omega)
    rw [a1, a2, a3, a4]; rfl
  unfold V.invOk; rw [this]; rfl
theorem inv_stop {l : List V.Comp} {k : Nat} (hk : k < l.length) (h : V.compAt l k l[k] = false) : V.compsTo l l.length = false :=
  V.compsTo_false (k := k + 1) (by omega) (by rw [V.compsTo_step hk, h]; simp)

set_option maxRecDepth 100000 in
set_option maxHeartbeats 3200000 in
theorem valid19_any (d : List Int) (time : Int) (v : Value) (l : List V.Comp) (w : World) (hm : MaxOk w) (hd : d.length = 32) (hdw : ∀ n ∈ d, (Lit.int .u8 n).wf = true) (hv : Comps w v l) (hl : l.length ≤ maxLen) :
    Calls Tryz.prog 48 #[.agg (icells d time v)] w fun e w' => e = .returned (.bool (V.invOk d time l)) ∧ Below w.heap.size w w' := by
  have HM := Lib.hid hm
  have HL := Lib.hid hv
  have h32 := icells_32 hd time v
  have h33 := icells_33 hd time v
  have HR := Lib.hid (icells_range w 27 time v hd)
  have HI : Hid ((Tryz.prog.info? 24).map (·.size) = some (dcellsL d).length) := Lib.hid (by rw [digInfo]; unfold dcellsL; simp [hd])
  have HQ : Hid (∀ w, (Op.equalIn 10000 24 (.agg (dcells d)) (.agg (dcells zero32))).run Tryz.prog w = .ok (decide (d = zero32)) w) := Lib.hid (fun w => eq_dig hd hdw (by decide) (by decide) w)
  have hmm := @run_makeMap Tryz.prog
  obtain ⟨va, vc, rfl, _⟩ := hv
  unfold maxLen at hl
  clear hm hd hdw
  generalize icells d time (.slice va l.length vc) = ic at *
  by_cases c1 : d = zero32
  · have HV := Lib.hid (inv_head (time := time) (l := l) (.inl c1))
    have HD : Hid (decide (d = zero32) = true) := Lib.hid (decide_eq_true c1)
    clear c1
    rw [HD.out] at HQ
    go_enter Tryz.func48, Tryz.ntmps48
    go_wp2_with (first | (refine wpList_load_mid rfl 24 _ rfl w.heap.size 0 rfl (dcellsL d) _ HR.out Tryz.underlying24 rfl HI.out ?_) | (refine wl_eql rfl 24 24 _ _ rfl (dcells d) (dcells zero32) rfl rfl guard_dig true (HQ.out _) ?_) | fail)
    go_ret
    exact ⟨ret_bool HV.out.symm, (Below.refl _ w).alloc (Nat.le_refl _) _⟩
  · have HD : Hid (decide (d = zero32) = false) := Lib.hid (decide_eq_false c1)
    rw [HD.out] at HQ
    by_cases c2 : time < 0
    · have HV := Lib.hid (inv_head (d := d) (l := l) (.inr (.inl c2)))
      clear c1
      go_enter Tryz.func48, Tryz.ntmps48
      go_wp2_with (first | (refine wpList_load_mid rfl 24 _ rfl w.heap.size 0 rfl (dcellsL d) _ HR.out Tryz.underlying24 rfl HI.out ?_) | (refine wl_eql rfl 24 24 _ _ rfl (dcells d) (dcells zero32) rfl rfl guard_dig false (HQ.out _) ?_) | fail)
      go_ret
      exact ⟨ret_bool HV.out.symm, (Below.refl _ w).alloc (Nat.le_refl _) _⟩
    · by_cases c3 : 1099511627776 < time
      · have HV := Lib.hid (inv_head (d := d) (l := l) (.inr (.inr (.inl c3))))
        clear c1
        go_enter Tryz.func48, Tryz.ntmps48
        go_wp2_with (first | (refine wpList_load_mid rfl 24 _ rfl w.heap.size 0 rfl (dcellsL d) _ HR.out Tryz.underlying24 rfl HI.out ?_) | (refine wl_eql rfl 24 24 _ _ rfl (dcells d) (dcells zero32) rfl rfl guard_dig false (HQ.out _) ?_) | fail)
        go_ret
        exact ⟨ret_bool HV.out.symm, (Below.refl _ w).alloc (Nat.le_refl _) _⟩
      · by_cases c4 : 128 < l.length
        · have HV := Lib.hid (inv_head (d := d) (time := time) (.inr (.inr (.inr c4))))
          clear c1
          go_enter Tryz.func48, Tryz.ntmps48
          go_wp2_with (first | (refine wpList_load_mid rfl 24 _ rfl w.heap.size 0 rfl (dcellsL d) _ HR.out Tryz.underlying24 rfl HI.out ?_) | (refine wl_eql rfl 24 24 _ _ rfl (dcells d) (dcells zero32) rfl rfl guard_dig false (HQ.out _) ?_) | fail)
          go_ret
          exact ⟨ret_bool HV.out.symm, (Below.refl _ w).alloc (Nat.le_refl _) _⟩
        · have HV := Lib.hid (inv_rest c1 c2 c3 c4)
          have c4' : l.length ≤ 128 := by omega
          have HMP := Lib.hid (CMap.made (w.alloc (.cells ic 27)))
          have HB0 : Hid (Below w.heap.size w ((w.alloc (.cells ic 27)).alloc (.map #[] 0))) := Lib.hid (((Below.refl _ w).alloc (Nat.le_refl _) _).alloc (by simp) _)
          clear c1 hl
          go_enter Tryz.func48, Tryz.ntmps48
          go_wp2_with (first | (refine wpList_load_mid rfl 24 _ rfl w.heap.size 0 rfl (dcellsL d) _ HR.out Tryz.underlying24 rfl HI.out ?_) | (refine wl_eql rfl 24 24 _ _ rfl (dcells d) (dcells zero32) rfl rfl guard_dig false (HQ.out _) ?_) | fail)
          have hmp : CMap ((w.alloc (.cells ic 27)).alloc (.map #[] 0)) (w.heap.size + 1) 0 [] := by have := HMP.out; simpa using this
          have hzz : w.heap.size + 1 < ((w.alloc (.cells ic 27)).alloc (.map #[] 0)).heap.size := by simp
          have HB1 := HB0
          clear HMP HB0 h32 h33 HR HI HQ hmm HD
          go_loopw [30] (fun i wr => ∃ k : Nat, k ≤ l.length ∧ i = .int .i64 k ∧ V.compsTo l k = true ∧ CMap wr (w.heap.size + 1) k (l.take k) ∧ w.heap.size + 1 < wr.heap.size ∧ Below w.heap.size w wr) (fun i _ => l.length - (intOf i).toNat)
          case atStart => exact ⟨0, Nat.zero_le _, rfl, rfl, hmp, hzz, HB1.out⟩
          case round =>
            obtain ⟨k, hk, rfl, hto, hcm, hzr, hbr⟩ := hrel
            have HTO := Lib.hid hto
            have HCM := Lib.hid hcm
            have HBR := Lib.hid hbr
            clear hto hcm hbr hmp
            by_cases hlt : k < l.length
            · obtain ⟨hxw, b, off, rfl, hblt, hxr⟩ := HL.out.at k hlt
              have HST := Lib.hid (V.compsTo_step hlt)
              have HSTOP := Lib.hid (inv_stop hlt)
              have HTAKE : Hid (l.take (k + 1) = l.take k ++ [l[k]]) := Lib.hid (List.take_succ_eq_append_getElem hlt)
              have hca : V.compAt l k l[k] = (V.compOk l[k] && (decide (-1 ≤ l[k].par) && (decide (l[k].par < k) && !decide (l[k] ∈ l.take k)))) := rfl
              have HCA := Lib.hid hca
              have HX := Lib.hid hxw
              have HXR := Lib.hid (rangeAt_below hxr HBR.out)
              clear hxw hxr hca
              generalize l[k] = x at *
              have x0 := ccells_0 x
              go_wp2_with (first | (refine wl_load rfl _ rfl b (off + k * 36) rfl x HX.out HXR.out ?_) | (refine wl_store rfl _ _ rfl _ _ rfl x HX.out rfl rfl ?_) | (refine wl_load rfl _ rfl wr.heap.size 0 rfl x HX.out (range_new x wr _) ?_) | fail)
              have hb1 : Below w.heap.size w (wr.alloc (.cells (ccells x) 88)) := HBR.out.alloc HBR.out.size _
              have hcm1 : CMap (wr.alloc (.cells (ccells x) 88)) (w.heap.size + 1) k (l.take k) := HCM.out.kept ((Below.refl _ wr).alloc (Nat.le_refl _) _)
              have hx1 := range_new x wr 88
              have hz1 : wr.heap.size < (wr.alloc (.cells (ccells x) 88)).heap.size := by simp
              generalize wr.alloc (.cells (ccells x) 88) = w1 at *
              obtain ⟨X, hXe⟩ : ∃ X, X = wr.heap.size := ⟨_, rfl⟩
              rw [← hXe] at hx1 hz1 hzr ⊢
              clear hXe x0
              refine (component_any x _ (HM.out.below hb1) HX.out).mono ?_
              rintro e w2 ⟨rfl, hb2⟩
              have HB2 := Lib.hid (hb1.trans (hb2.mono hb1.size))
              have HCM2 := Lib.hid (hcm1.kept hb2)
              have hx2 := rangeAt_below hx1 hb2
              have x0 : w2.cell? ⟨X, 0, none⟩ = some (.int .i64 x.par) := hx2 0 _ rfl
              have HX2 := Lib.hid hx2
              have hz2 : X < w2.heap.size := Nat.lt_of_lt_of_le hz1 hb2.size
              have hpr := wf_rng HX.out.par
              clear hb1 hcm1 hx1 hz1 hb2 hx2
              rcases hok : V.compOk x with _ | _
              · have HF : Hid (V.invOk d time l = false) := Lib.hid (by rw [HV.out]; exact HSTOP.out (by rw [HCA.out, hok]; rfl))
                clear hok
                go_wp2
                go_ret
                exact ⟨ret_bool HF.out.symm, HB2.out⟩
              · by_cases p1 : x.par < -1
                · have HF : Hid (V.invOk d time l = false) := Lib.hid (by rw [HV.out]; exact HSTOP.out (by rw [HCA.out, decide_eq_false (show ¬ -1 ≤ x.par by omega)]; simp))
                  clear hok
                  go_wp2
                  go_ret
                  exact ⟨ret_bool HF.out.symm, HB2.out⟩
                · by_cases p2 : x.par < (k : Int)
                  · have q1 : decide (x.par < -1) = false := decide_eq_false p1
                    have q2 : decide ((k : Int) ≤ x.par) = false := decide_eq_false (by omega)
                    by_cases p3 : x ∈ l.take k
                    · have HF : Hid (V.invOk d time l = false) := Lib.hid (by rw [HV.out]; exact HSTOP.out (by rw [HCA.out, decide_eq_true p3]; simp))
                      have HP3 : Hid (decide (x ∈ l.take k) = true) := Lib.hid (decide_eq_true p3)
                      clear hok p3
                      go_wp2_with (first | (refine wg_load rfl _ rfl X 0 rfl x HX.out HX2.out ?_) | (refine wg_lookup rfl _ _ rfl (w.heap.size + 1) k (l.take k) rfl HCM2.out x HX.out rfl ?_; rw [HP3.out]) | fail)
                      go_ret
                      exact ⟨ret_bool HF.out.symm, HB2.out⟩
                    · have HN : Hid (V.compsTo l (k + 1) = true) := Lib.hid (by
                        rw [HST.out, HTO.out, HCA.out, hok, decide_eq_true (show -1 ≤ x.par by omega), decide_eq_true p2, decide_eq_false p3]; rfl)
                      have HP3 : Hid (decide (x ∈ l.take k) = false) := Lib.hid (decide_eq_false p3)
                      clear hok p3
                      go_wp2_with (first | (refine wg_load rfl _ rfl X 0 rfl x HX.out HX2.out ?_) | (refine wg_lookup rfl _ _ rfl (w.heap.size + 1) k (l.take k) rfl HCM2.out x HX.out rfl ?_; rw [HP3.out]) | (refine wl_update rfl _ _ _ rfl (w.heap.size + 1) k (l.take k) rfl HCM2.out (by unfold maxLen; omega) x HX.out rfl rfl ?_; intro w3 hm3 hg3) | fail)
                      rw [← HTAKE.out] at hm3
                      have HM3 := Lib.hid hm3
                      have HB3 := Lib.hid (HB2.out.trans (grown_below hg3 (by omega) HB2.out.size))
                      have hz3 : w.heap.size + 1 < w3.heap.size := Nat.lt_of_lt_of_le (by omega) hg3.size
                      clear hm3 hg3
                      go_wp2
                      go_roundw
                      case rel => exact ⟨k + 1, by omega, by go_num, HN.out, HM3.out, hz3, HB3.out⟩
                      case measure => simp [intOf]; omega
                  · have HF : Hid (V.invOk d time l = false) := Lib.hid (by rw [HV.out]; exact HSTOP.out (by rw [HCA.out, decide_eq_false p2]; simp))
                    clear hok
                    go_wp2
                    go_ret
                    exact ⟨ret_bool HF.out.symm, HB2.out⟩
            · obtain rfl : k = l.length := by omega
              have HT : Hid (V.invOk d time l = true) := Lib.hid (by rw [HV.out]; exact HTO.out)
              go_wp2
              go_ret
              exact ⟨ret_bool HT.out.symm, HBR.out⟩
end Go.Proofs.YtnhfaincdabdkaaGreatDoor
namespace Go.Proofs.YtnhfaincdabdkaaGreatDoor
open Go.RowKit

namespace V
def bytesD (d : List Int) : Bs := d.map fun n => UInt8.ofNat n.toNat
def digText (d : List Int) : Bs := if d = zeroDig then [] else fmtB (bytesD d)
def invW : Bs := [105, 110, 118, 101, 110, 116, 111, 114, 121]
def compW : Bs := [99, 111, 109, 112, 111, 110, 101, 110, 116]
def headLine (d : List Int) (t : Int) : List Bs := [invW, fmtB (bytesD d), Lib.decDigits t.toNat]
def compLine (c : Comp) : List Bs := [compW, Lib.decDigits (c.par + 1).toNat, schName c.sch, c.name, c.ver, digText c.dig]
/-- the lines up to the k-th component -/
def invLines (d : List Int) (t : Int) (l : List Comp) (k : Nat) : List (List Bs) := headLine d t :: (l.take k).map compLine
theorem invLines_step {d : List Int} {t : Int} {l : List Comp} {k : Nat} (h : k < l.length) : invLines d t l (k + 1) = invLines d t l k ++ [compLine l[k]] := by
  unfold invLines
  rw [List.take_succ_eq_append_getElem h, List.map_append]
  rfl
theorem invLines_len (d : List Int) (t : Int) (l : List Comp) (k : Nat) : (invLines d t l k).length ≤ l.length + 1 := by
  unfold invLines
  rw [List.length_cons, List.length_map, List.length_take]
  omega
theorem bytesD_len (d : List Int) : (bytesD d).length = d.length := by simp [bytesD]
theorem fmtB_len (d : Bs) : (fmtB d).length = 7 + 2 * d.length := by
  unfold fmtB
  rw [List.length_append, hexB_len]
  rfl
theorem docSz_all {ls : List (List Bs)} {M : Nat} (h : ∀ x ∈ ls, lineSz x x.length ≤ M) : ∀ k, k ≤ ls.length → docSz ls k ≤ k * M
  | 0, _ => by simp [docSz]
  | k + 1, hk => by
    rw [docSz_step (by omega)]
    have h1 := docSz_all h k (by omega)
    have h2 := h _ (List.getElem_mem (show k < ls.length by omega))
    rw [Nat.succ_mul]
    omega
theorem lineSz_all {x : List Bs} {M : Nat} (h : ∀ u ∈ x, sizeW u + 1 ≤ M) : lineSz x x.length ≤ x.length * M := by
  unfold lineSz
  rw [List.take_length]
  induction x with
  | nil => simp
  | cons u x ih =>
    rw [List.map_cons, List.sum_cons, List.length_cons, Nat.succ_mul]
    have h1 := h u (List.mem_cons_self ..)
    have h2 := ih fun v hv => h v (List.mem_cons_of_mem _ hv)
    omega
end V
theorem V.digText_len {d : List Int} (hd : d.length = 32) : (V.digText d).length ≤ 71 := by
  unfold V.digText
  split
  · simp
  · rw [V.fmtB_len, V.bytesD_len, hd]; decide
theorem V.compLine_len {c : V.Comp} (hc : V.compOk c = true) (hp : c.par < 1000) (hd : c.dig.length = 32) : (∀ u ∈ V.compLine c, u.length ≤ 200) ∧ V.lineSz (V.compLine c) (V.compLine c).length ≤ 1101 := by
  have h1 := V.compOk_len hc
  have h2 := dec_len (n := (c.par + 1).toNat) (by omega)
  have h3 := V.schName_len c.sch
  have h4 := V.digText_len hd
  refine ⟨fun u hu => ?_, ?_⟩
  · unfold V.compLine at hu
    simp only [List.mem_cons, List.not_mem_nil, or_false] at hu
    rcases hu with rfl | rfl | rfl | rfl | rfl | rfl
    · decide
    · omega
    · omega
    · exact h1.1
    · omega
    · omega
  · have e : V.lineSz (V.compLine c) (V.compLine c).length = (V.sizeW V.compW + 1) + ((V.sizeW (Lib.decDigits (c.par + 1).toNat) + 1) + ((V.sizeW (V.schName c.sch) + 1) + ((V.sizeW c.name + 1) + ((V.sizeW c.ver + 1) + ((V.sizeW (V.digText c.dig) + 1) + 0))))) := rfl
    have s1 : V.sizeW V.compW = 9 := by decide
    have s2 := V.sizeW_le (Lib.decDigits (c.par + 1).toNat)
    have s3 := V.sizeW_le (V.schName c.sch)
    have s4 := V.sizeW_le c.name
    have s5 := V.sizeW_le c.ver
    have s6 := V.sizeW_le (V.digText c.dig)
    omega
theorem V.headLine_len {d : List Int} {t : Int} (hd : d.length = 32) (ht : t ≤ 1099511627776) : (∀ u ∈ V.headLine d t, u.length ≤ 200) ∧ V.lineSz (V.headLine d t) (V.headLine d t).length ≤ 1101 := by
  have h2 := dec_len (n := t.toNat) (by omega)
  have h4 : (V.fmtB (V.bytesD d)).length = 71 := by rw [V.fmtB_len, V.bytesD_len, hd]
  refine ⟨fun u hu => ?_, ?_⟩
  · unfold V.headLine at hu
    simp only [List.mem_cons, List.not_mem_nil, or_false] at hu
    rcases hu with rfl | rfl | rfl
    · decide
    · omega
    · omega
  · have e : V.lineSz (V.headLine d t) (V.headLine d t).length = (V.sizeW V.invW + 1) + ((V.sizeW (V.fmtB (V.bytesD d)) + 1) + ((V.sizeW (Lib.decDigits t.toNat) + 1) + 0)) := rfl
    have s1 : V.sizeW V.invW = 9 := by decide
    have s2 := V.sizeW_le (V.fmtB (V.bytesD d))
    have s3 := V.sizeW_le (Lib.decDigits t.toNat)
    omega
theorem V.inv_parts {d : List Int} {t : Int} {l : List V.Comp} (h : V.invOk d t l = true) : 0 ≤ t ∧ t ≤ 1099511627776 ∧ l.length ≤ 128 ∧ ∀ k (hk : k < l.length), V.compOk l[k] = true ∧ -1 ≤ l[k].par ∧ l[k].par < k := by
  unfold V.invOk V.headOk at h
  simp only [Bool.and_eq_true, decide_eq_true_eq] at h
  obtain ⟨⟨_, h1, h2, h3⟩, h4⟩ := h
  refine ⟨h1, h2, h3, fun k hk => ?_⟩
  have := V.compAt_iff.1 (V.compsTo_at h4 hk)
  exact ⟨this.1, this.2.1, this.2.2.1⟩
theorem V.inv_doc {d : List Int} {t : Int} {l : List V.Comp} (h : V.invOk d t l = true) (hd : d.length = 32) (hw : ∀ c ∈ l, c.dig.length = 32) : V.DocOk (V.invLines d t l l.length) := by
  obtain ⟨h1, h2, h3, h4⟩ := V.inv_parts h
  have hl := V.invLines_len d t l l.length
  have hm : ∀ x ∈ V.invLines d t l l.length, (0 < x.length ∧ x.length ≤ 6) ∧ (∀ u ∈ x, u.length ≤ 200) ∧ V.lineSz x x.length ≤ 1101 := by
    intro x hx
    unfold V.invLines at hx
    rw [List.take_length] at hx
    rcases List.mem_cons.1 hx with rfl | hx
    · exact ⟨by simp [V.headLine], V.headLine_len hd h2⟩
    · obtain ⟨c, hc, rfl⟩ := List.mem_map.1 hx
      obtain ⟨k, hk, rfl⟩ := List.mem_iff_getElem.1 hc
      have := h4 k hk
      exact ⟨by simp [V.compLine], V.compLine_len this.1 (by omega) (hw _ hc)⟩
  refine ⟨by omega, fun x hx => ?_, ?_⟩
  · have := hm x hx
    exact ⟨this.1.1, by omega, fun u hu => by have := this.2.1 u hu; omega⟩
  · have := V.docSz_all (ls := V.invLines d t l l.length) (M := 1101) (fun x hx => (hm x hx).2.2) _ (Nat.le_refl _)
    have h5 : (V.invLines d t l l.length).length * 1101 ≤ 129 * 1101 := Nat.mul_le_mul_right _ (by omega)
    omega
theorem bytesD_vals {d : List Int} (h : ∀ n ∈ d, (Lit.int .u8 n).wf = true) : bvals (V.bytesD d) = dcellsL d := by
  unfold bvals V.bytesD dcellsL
  rw [List.map_map]
  apply List.map_congr_left
  intro n hn
  have := h n hn
  simp [Lit.wf, IntKind.min, IntKind.max, IntKind.signed, IntKind.bits] at this
  simp
  omega
theorem TabIs_below {P : Program} {w w' : World} {name : String} {k : IntKind} {zs : List Int} (h : Lib.TabIs P w name k zs) (hb : Below w.heap.size w w') : Lib.TabIs P w' name k zs := by
  unfold Lib.TabIs World.var? at *
  cases hg : P.globalNamed name with
  | none => rw [hg] at h; cases h
  | some g =>
    rw [hg] at h
    simp only [Option.bind_some] at h ⊢
    cases hq : w.heap[g]? with
    | none => rw [hq] at h; cases h
    | some o => rw [hb.block g (Array.getElem?_eq_some_iff.1 hq).1]; exact h
/-- the table of powers that numbers' texts are made by -/
def PowOk (w : World) : Prop := Lib.TabIs Tryz.prog w "internal/strconv.uint64pow10" .u64 Lib.pow10Tab
theorem PowOk.below {w w' : World} (h : PowOk w) (hb : Below w.heap.size w w') : PowOk w' := TabIs_below h hb
end Go.Proofs.YtnhfaincdabdkaaGreatDoor
namespace Go.Proofs.YtnhfaincdabdkaaGreatDoor
open Go.RowKit

namespace V
/-- the 32 numbers of a digest, zeros behind -/
def d32 (o : Option Bs) : List Int := (o.getD []).map (fun b => (b.toNat : Int)) ++ List.replicate (32 - (o.getD []).length) 0
def zC : Comp := ⟨0, 0, [], [], zeroDig⟩
/-- the component of a line, and whether there is one -/
def readC : List Bs → Comp × Bool
  | [a, p, s, n, v, g] => if a = compW then (⟨(numP p).1 - 1, schNum s, n, v, d32 (parD g)⟩, ((numP p).2 && (decide (g = []) || ((parD g).isSome && decide (¬ d32 (parD g) = zeroDig)))) && decide (¬ schNum s = 0)) else (zC, false)
  | _ => (zC, false)
theorem readC_not {l : List Bs} (h : l.length ≠ 6) : readC l = (zC, false) := by
  unfold readC
  split
  · simp at h
  · rfl
theorem readC_word {a p s n v g : Bs} (h : ¬ a = compW) : readC [a, p, s, n, v, g] = (zC, false) := by
  simp [readC, h]
theorem readC_six (p s n v g : Bs) : readC [compW, p, s, n, v, g] = (⟨(numP p).1 - 1, schNum s, n, v, d32 (parD g)⟩, ((numP p).2 && (decide (g = []) || ((parD g).isSome && decide (¬ d32 (parD g) = zeroDig)))) && decide (¬ schNum s = 0)) := by
  simp [readC]
theorem d32_none : d32 none = zeroDig := rfl
theorem d32_some {d : Bs} (h : d.length = 32) : d32 (some d) = d.map (fun b => (b.toNat : Int)) := by simp [d32, h]
theorem parD_len' {S d : Bs} (h : parD S = some d) : d.length = 32 := by
  unfold parD at h
  split at h
  · rename_i e
    have := unhx_len _ (Nat.le_refl _) h
    rw [List.length_drop] at this
    omega
  · cases h
theorem d32_len (S : Bs) : (d32 (parD S)).length = 32 := by
  cases h : parD S with
  | none => rfl
  | some d => rw [d32_some (parD_len' h)]; simpa using parD_len' h
theorem d32_wf (o : Option Bs) : ∀ n ∈ d32 o, (Lit.int .u8 n).wf = true := by
  intro n hn
  unfold d32 at hn
  rw [List.mem_append] at hn
  rcases hn with h | h
  · obtain ⟨b, _, rfl⟩ := List.mem_map.1 h
    have := b.toNat_lt
    simp [Lit.wf, IntKind.min, IntKind.max, IntKind.signed, IntKind.bits]
    omega
  · rw [List.eq_of_mem_replicate h]; decide
/-- the lines behind the first one -/
def readAll : List (List Bs) → Option (List Comp)
  | [] => some []
  | l :: r => if (readC l).2 = true then (readAll r).map ((readC l).1 :: ·) else none
/-- what Decode of an inventory returns -/
def decI (b : Bs) : List Int × Int × List Comp × Int :=
  if (decP b).2 ≠ 0 then (zeroDig, 0, [], (decP b).2) else match (decP b).1 with
  | [a, d, t] :: rest => if a = invW ∧ (parD d).isSome = true ∧ (numP t).2 = true then (match readAll rest with
      | none => (zeroDig, 0, [], 2)
      | some cs => if invOk (d32 (parD d)) (numP t).1 cs = true then (d32 (parD d), (numP t).1, cs, 0) else (zeroDig, 0, [], 1)) else (zeroDig, 0, [], 2)
  | _ => (zeroDig, 0, [], 2)
theorem numP_rng (s : Bs) : 0 ≤ (numP s).1 ∧ (numP s).1 ≤ 1099511627776 := by
  unfold numP
  split
  · rename_i h
    constructor
    · show (0 : Int) ≤ ((valD s : Nat) : Int); omega
    · show ((valD s : Nat) : Int) ≤ _; have := h.2.2.2.2; omega
  · decide
theorem schNum_rng (s : Bs) : 0 ≤ schNum s ∧ schNum s ≤ 3 := by
  unfold schNum
  repeat' split
  all_goals decide
end V
theorem cells32_d (o : Option V.Bs) : cells32 (o.getD []) = dcells (V.d32 o) := by
  unfold cells32 dcells dcellsL V.d32
  rw [List.map_append, List.map_map, List.map_replicate]
  rfl
theorem zC_eq : V.zC = zeroC := rfl
theorem readC_wf {l : List V.Bs} (h : ∀ x ∈ l, x.length ≤ maxLen) : CompWf (V.readC l).1 := by
  unfold V.readC
  split
  · rename_i a p s n v g
    split
    · have h1 := V.numP_rng p
      have h2 := V.schNum_rng s
      exact ⟨by simp [Lit.wf, IntKind.min, IntKind.max, IntKind.signed, IntKind.bits]; omega, by simp [Lit.wf, IntKind.min, IntKind.max, IntKind.signed, IntKind.bits]; omega, h n (by simp), h v (by simp), V.d32_len g, V.d32_wf _⟩
    · exact zeroC_wf
  · exact zeroC_wf
end Go.Proofs.YtnhfaincdabdkaaGreatDoor
