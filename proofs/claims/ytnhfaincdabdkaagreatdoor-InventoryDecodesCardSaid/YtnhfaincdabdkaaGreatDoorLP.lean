/-
  Walk: inventory.Decode.
-/
import Derived.Test.YtnhfaincdabdkaaGreatDoorLO
import Derived.Test.YtnhfaincdabdkaaGreatDoorLM
import Derived.Test.YtnhfaincdabdkaaGreatDoorLE
import Derived.Test.YtnhfaincdabdkaaGreatDoorPL
import Derived.Test.YtnhfaincdabdkaaGreatDoorPJ
namespace Go.Proofs.YtnhfaincdabdkaaGreatDoor
open Go.RowKit

set_option maxRecDepth 100000 in
set_option maxHeartbeats 6400000 in
theorem invDecode_any (v : Value) (bs : V.Bs) (w : World) (hm : MaxOk w) (hv : BytesIn w v bs) (hl : bs.length ≤ maxLen) :
    Calls Tryz.prog 14 #[v] w (DecIPost bs w) := by
  have HM := Lib.hid hm
  obtain ⟨W0, hW0⟩ : ∃ W0, W0 = w.alloc (.cells (icells zero32 0 (.slice none 0 0)) 27) := ⟨_, rfl⟩
  have hb0 : Below w.heap.size w W0 := by rw [hW0]; exact (Below.refl _ w).alloc (Nat.le_refl _) _
  have hz0 : W0.heap.size = w.heap.size + 1 := by rw [hW0]; simp
  have HG0 : Hid (W0.heap[w.heap.size]? = some (.cells (icells zero32 0 (.slice none 0 0)) 27 (0, 0))) := Lib.hid (by rw [hW0]; exact heap_alloc_new w _)
  have HV := Lib.hid (hv.below hb0)
  have HB0 := Lib.hid hb0
  have HLB := Lib.hid hl
  have HZ0 : Hid ((icells zero32 0 (.slice none 0 0)).size = 34) := Lib.hid (icells_size rfl _ _)
  have HEX : Hid (∀ (k : Int) (W : World), V.decI bs = (V.zeroDig, 0, [], k) → Below w.heap.size w W → W.heap[w.heap.size]? = some (.cells (icells zero32 0 (.slice none 0 0)) 27 (0, 0)) →
      ∀ fn : Func, fn.results = #[.cell 2 27, .tmp 3] → ∀ a : Act, a.tmps.getD 2 undef = .pointer (some ⟨w.heap.size, 0, none⟩) → a.tmps.getD 3 undef = .int .i64 k → a.defers = [] →
      bodyPost Tryz.prog fn (DecIPost bs w) .ret a W) := Lib.hid (by
    intro k W hk hb hg fn hfn a h4 h5 h6
    refine bodyPost_ret (results_two hfn h4 h5 (run_loadVar_row _ _ _ _ _ (0, 0) _ hg Tryz.underlying27 rfl (by rw [invInfo, HZ0.out]))) h6 ?_
    refine ⟨.slice none 0 0, ?_, ?_, hb⟩
    · rw [hk]; rfl
    · rw [hk]; exact Comps.nil _)
  clear hm hv hl
  go_enter Tryz.func14, Tryz.ntmps14
  go_wp2_with fail
  rw [zero_inv, ← hW0]
  refine (docDecode_any v bs W0 (HM.out.below hb0) HV.out HLB.out).mono ?_
  rintro e w1 ⟨u, rfl, hu, hcap, hb1⟩
  have hz1 : w.heap.size + 1 ≤ w1.heap.size := by have := hb1.size; omega
  have HB1 := Lib.hid (HB0.out.trans (hb1.mono HB0.out.size))
  have HG1 := Lib.hid ((hb1.block _ (by omega)).trans HG0.out)
  have HU := Lib.hid hu
  have HWD := Lib.hid (V.decP_words (bs := bs))
  have hlen := V.decP_len bs
  clear hW0 hb0 hb1 hu HG0 HV HB0 hz0
  obtain ⟨⟨ls, c⟩, hdp⟩ : ∃ p, V.decP bs = p := ⟨_, rfl⟩
  rw [hdp] at HU HWD hlen ⊢
  simp only at HU HWD hlen ⊢
  have HDP := Lib.hid hdp
  obtain ⟨va, vn, vc, rfl, hvc⟩ := hcap
  obtain rfl : vn = ls.length := by obtain ⟨_, _, e, _⟩ := HU.out; cases e; rfl
  clear hdp
  have HS1 := Lib.hid (setRow_heap w1 _ _ (icells zero32 0 (.slice none 0 0)) _ _ HG1.out)
  have HSB1 := Lib.hid (below_setRow0 HB1.out (icells zero32 0 (.slice none 0 0)) (by omega))
  by_cases hc : c = 0
  case neg =>
    have HE := Lib.hid (V.decI_err HDP.out hc)
    have hcb : (c != 0) = true := by simp [hc]
    clear HDP HU HWD hvc hlen
    go_wp2_with (first | (refine wl_storeV rfl _ _ rfl _ _ _ HG1.out rfl zero32 0 (.slice none 0 0) rfl rfl rfl HZ0.out ?_) | fail)
    exact HEX.out c _ HE.out HSB1.out HS1.out _ Tryz.results14 _ rfl rfl rfl
  subst hc
  match ls, HU, HWD, HDP, hvc, hlen with
  | [], HU, HWD, HDP, hvc, hlen =>
    have HE := Lib.hid (V.decI_none HDP.out)
    clear HU HWD HDP
    go_wp2_with (first | (refine wl_storeV rfl _ _ rfl _ _ _ HG1.out rfl zero32 0 (.slice none 0 0) rfl rfl rfl HZ0.out ?_) | fail)
    exact HEX.out 2 _ HE.out HSB1.out HS1.out _ Tryz.results14 _ rfl rfl rfl
  | l0 :: rest, HU, HWD, HDP, hvc, hlen =>
    obtain ⟨B, off, u0, rfl, hBlt, hu0, hs0⟩ := HU.out.at 0 (by simp)
    rw [Nat.add_zero] at hu0
    simp only [List.getElem_cons_zero] at hs0
    have hls : (l0 :: rest).length = rest.length + 1 := rfl
    rw [hls] at hvc hlen HU ⊢
    have q1 : ((rest.length + 1 : Nat) : Int) ≠ 0 := by omega
    have q2 : (((rest.length + 1 : Nat) : Int) == 0) = false := by rw [beq_eq_false_iff_ne]; omega
    have q3 : (0 : Int) < ((rest.length + 1 : Nat) : Int) := by omega
    clear hls
    by_cases h3 : l0.length = 3
    case neg =>
      have HE := Lib.hid (V.decI_len HDP.out h3)
      obtain ⟨a0, c0, rfl, hjunk⟩ := hs0
      have q4 : ((l0.length : Int) != 3) = true := by simp; omega
      have q5 : ¬ (l0.length : Int) = 3 := by omega
      clear hjunk HU HWD HDP h3
      generalize l0.length = m0 at *
      generalize hmm : rest.length + 1 = m at *
      clear hmm
      go_wp2_with (first | (refine wl_storeV rfl _ _ rfl _ _ _ HG1.out rfl zero32 0 (.slice none 0 0) rfl rfl rfl HZ0.out ?_) | fail)
      exact HEX.out 2 _ HE.out HSB1.out HS1.out _ Tryz.results14 _ rfl rfl rfl
    obtain ⟨a, d, t, rfl⟩ := three_words h3
    obtain ⟨b0, o0, c0, rfl, hb0lt, ca, cd, ct⟩ := strs_at3 hs0
    have hdl : (⟨d.toArray⟩ : ByteArray).size ≤ maxLen := by rw [sz_arr]; have := HWD.out _ (List.mem_cons_self ..) d (by simp); unfold maxLen; omega
    have htl : (⟨t.toArray⟩ : ByteArray).size ≤ maxLen := by rw [sz_arr]; have := HWD.out _ (List.mem_cons_self ..) t (by simp); unfold maxLen; omega
    clear h3 hs0
    by_cases ha : a = V.invW
    case neg =>
      have HE : Hid (V.decI bs = (V.zeroDig, 0, [], 2)) := Lib.hid (V.decI_no HDP.out (fun e => ha e.1))
      have hne : (a == [105, 110, 118, 101, 110, 116, 111, 114, 121]) = false := by rw [beq_eq_false_iff_ne]; exact ha
      clear HU HWD HDP ha cd ct hdl htl
      generalize hmm : rest.length + 1 = m at *
      clear hmm
      go_wp2_with (first | (refine wl_storeV rfl _ _ rfl _ _ _ HG1.out rfl zero32 0 (.slice none 0 0) rfl rfl rfl HZ0.out ?_) | fail)
      exact HEX.out 2 _ HE.out HSB1.out HS1.out _ Tryz.results14 _ rfl rfl rfl
    subst ha
    have hcw : (⟨V.invW.toArray⟩ : ByteArray) = ⟨#[105, 110, 118, 101, 110, 116, 111, 114, 121]⟩ := rfl
    rw [hcw] at ca
    have HN0 : Hid (¬ ((V.parD d).isSome = true ∧ (V.numP t).2 = true) → V.decI bs = (V.zeroDig, 0, [], 2)) := Lib.hid (fun h => V.decI_no HDP.out (fun e => h e.2))
    have HN1 : Hid ((V.parD d).isSome = true → (V.numP t).2 = true → V.readAll rest = none → V.decI bs = (V.zeroDig, 0, [], 2)) := Lib.hid (fun h1 h2 h3 => V.decI_rest HDP.out ⟨rfl, h1, h2⟩ h3)
    have HN2 : Hid ((V.parD d).isSome = true → (V.numP t).2 = true → ∀ cs, V.readAll rest = some cs → V.decI bs = if V.invOk (V.d32 (V.parD d)) (V.numP t).1 cs = true then (V.d32 (V.parD d), (V.numP t).1, cs, 0) else (V.zeroDig, 0, [], 1)) := Lib.hid (fun h1 h2 cs h3 => V.decI_all HDP.out ⟨rfl, h1, h2⟩ h3)
    have HDL : Hid ((V.d32 (V.parD d)).length = 32 ∧ ∀ n ∈ V.d32 (V.parD d), (Lit.int .u8 n).wf = true) := Lib.hid ⟨V.d32_len d, V.d32_wf _⟩
    have HDS := Lib.hid hdl
    have HTS := Lib.hid htl
    have HNR := Lib.hid (V.numP_rng t)
    have HHU := Lib.hid hu0
    have HCT := Lib.hid ct
    clear HDP hdl htl hcw ct
    obtain ⟨m, hmm⟩ : ∃ m, m = rest.length + 1 := ⟨_, rfl⟩
    rw [← hmm] at hvc hlen HU q1 q2 q3 ⊢
    have HMM := Lib.hid hmm
    clear hmm
    go_wp2_with fail
    refine (digParse_any ⟨d.toArray⟩ _ HDS.out).mono ?_
    rintro e w2 ⟨rfl, hb2⟩
    rw [bs_arr, cells32_d] at *
    generalize V.d32 (V.parD d) = dg at *
    generalize (V.parD d).isSome = is at *
    have hb3 : Below w1.heap.size w1 (w2.alloc (.cells (dcells dg) 24)) := hb2.alloc hb2.size _
    have hrd : (w2.alloc (.cells (dcells dg) 24)).rangeAt w2.heap.size 0 (dcellsL dg) := fun j v hv => by rw [Nat.zero_add, World.cell?_alloc_new]; unfold dcells; simpa using hv
    have z0 := cell_keep hb3 HHU.out
    have z2 := cell_keep hb3 HCT.out
    have hz3 := hb3.size
    have HB3 := Lib.hid (HB1.out.trans (hb3.mono HB1.out.size))
    have HG3 := Lib.hid ((hb3.block _ (by omega)).trans HG1.out)
    have HU3 := Lib.hid (HU.out.below hb3)
    have HRD := Lib.hid hrd
    clear hb2 hb3 hrd HU HHU HCT ca cd hu0 HG1 HS1 HSB1
    go_wp2_with (first | (refine wl_storeD rfl _ _ rfl _ _ rfl HDL.out.1 rfl rfl ?_
                          generalize w2.alloc (.cells (dcells dg) 24) = w3 at *
                          generalize w2.heap.size = gd at *) | fail)
    refine (docParseNumber_any ⟨t.toArray⟩ w3 HTS.out).mono ?_
    rintro e w4 ⟨rfl, rfl⟩
    rw [bs_arr] at *
    generalize (V.numP t).1 = nn at *
    generalize (V.numP t).2 = okn at *
    have HS3 := Lib.hid (setRow_heap w4 _ _ (icells zero32 0 (.slice none 0 0)) _ _ HG3.out)
    have HSB3 := Lib.hid (below_setRow0 HB3.out (icells zero32 0 (.slice none 0 0)) (by omega))
    by_cases hno : is = true ∧ okn = true
    case neg =>
      have HE := Lib.hid (HN0.out hno)
      clear HN0 HN1 HN2 z0 z2 HU3
      rcases is with _ | _
      · go_wp2_with (first | (refine wl_storeV rfl _ _ rfl _ _ _ HG3.out rfl zero32 0 (.slice none 0 0) rfl rfl rfl HZ0.out ?_) | fail)
        exact HEX.out 2 _ HE.out HSB3.out HS3.out _ Tryz.results14 _ rfl rfl rfl
      · rcases okn with _ | _
        · go_wp2_with (first | (refine wl_storeV rfl _ _ rfl _ _ _ HG3.out rfl zero32 0 (.slice none 0 0) rfl rfl rfl HZ0.out ?_) | fail)
          exact HEX.out 2 _ HE.out HSB3.out HS3.out _ Tryz.results14 _ rfl rfl rfl
        · exact absurd ⟨rfl, rfl⟩ hno
    obtain ⟨rfl, rfl⟩ := hno
    have HN3 := Lib.hid (HN1.out rfl rfl)
    have HN4 := Lib.hid (HN2.out rfl rfl)
    have HI : Hid ((Tryz.prog.info? 24).map (·.size) = some (dcellsL dg).length) := Lib.hid (by rw [digInfo]; unfold dcellsL; simp [HDL.out.1])
    obtain ⟨o2, hpart, hparts⟩ := lines_part HU3.out HMM.out hvc
    have HPT := Lib.hid hparts
    clear HN0 HN1 HN2 z2 HS3 HSB3 hparts
    have hm1 : m - 1 = rest.length := by have := HMM.out; omega
    have hb5 : Below w4.heap.size w4 (w4.alloc (.cells (icells dg nn (.slice none 0 0)) 27)) := (Below.refl _ w4).alloc (Nat.le_refl _) _
    have HD5 : Hid (DInv w4 w.heap.size w4.heap.size dg nn (.slice none 0 0) [] (w4.alloc (.cells (icells dg nn (.slice none 0 0)) 27))) := Lib.hid ⟨CRow.nil _ _, heap_alloc_new w4 _, (hb5.block _ (by omega)).trans HG3.out, hb5, by omega⟩
    have HBO : Hid (w.heap.size + 1 ≤ w4.heap.size ∧ B < w4.heap.size ∧ rest.length ≤ 999) := Lib.hid ⟨by omega, by omega, by omega⟩
    clear hb5 z0
    go_wp2_with (first | (refine wpList_load_mid rfl 24 _ rfl gd 0 rfl (dcellsL dg) _ HRD.out Tryz.underlying24 rfl HI.out ?_) | (refine wl_buildI rfl _ _ rfl HDL.out.1 rfl nn rfl ?_) | (refine wl_storeIN rfl _ _ rfl _ _ rfl dg nn (.slice none 0 0) HDL.out.1 rfl rfl rfl ?_) | fail)
    generalize w4.alloc (.cells (icells dg nn (.slice none 0 0)) 27) = w5 at *
    obtain ⟨O, hO⟩ : ∃ O, O = w4.heap.size := ⟨_, rfl⟩
    try rw [hm1]
    rw [← hO] at HD5 HBO ⊢
    have HOE := Lib.hid hO
    clear hO hpart hm1 hBlt hb0lt hz3 hvc hlen q1 q2 q3 hz1
    go_loopw [74] (fun jv W => ∃ (k : Nat) (vo : Value) (out : List V.Comp), k ≤ rest.length ∧ out.length = k ∧ jv = .int .i64 k ∧ V.readTo rest k out ∧ DInv w4 w.heap.size O dg nn vo out W) (fun jv _ => rest.length - (intOf jv).toNat)
    case atStart => exact ⟨0, _, [], Nat.zero_le _, rfl, rfl, V.readTo_zero _, HD5.out⟩
    case round =>
      obtain ⟨k, vo, out, hk, hok, rfl, hrt, hdi⟩ := hrel
      have HRT := Lib.hid hrt
      have HOK := Lib.hid hok
      clear hok
      have HDI := Lib.hid hdi
      obtain ⟨vao, vco, hvo, hjunk⟩ := hdi.row.comps
      subst hvo
      have hBO := HBO.out
      clear hrt hjunk HD5
      by_cases hlt : k < rest.length
      · obtain ⟨u, hu, hs⟩ := HPT.out k hlt
        have hold : Below w4.heap.size w4 wr := by rw [← HOE.out]; exact hdi.old
        have huW := cell_keep hold hu
        have HSW := Lib.hid (strs_below hs hold)
        have HWL : Hid (∀ x ∈ rest[k], x.length ≤ maxLen) := Lib.hid (fun x hx => by have := HWD.out _ (List.mem_cons_of_mem _ (List.getElem_mem hlt)) x hx; unfold maxLen; omega)
        obtain ⟨au, cu, hue, hj⟩ := HSW.out
        subst hue
        have HNO := Lib.hid (V.readTo_no HRT.out hlt)
        have HYES := Lib.hid (V.readTo_step HRT.out hlt)
        have HC := Lib.hid (readC_wf HWL.out)
        have hi1 : (0 : Int) ≤ (k : Int) := by omega
        have hi2 : (k : Int) < (rest.length : Int) := by omega
        clear hj hold hu hs hdi hBO
        go_wp2_with fail
        refine (invRead_any _ rest[k] wr HSW.out HWL.out).mono ?_
        rintro e w6 ⟨rfl, hb6⟩
        have HD6 := Lib.hid (HDI.out.call hb6)
        clear hb6 HDI HSW HWL HRT huW
        generalize (V.readC rest[k]).1 = c at *
        generalize (V.readC rest[k]).2 = ok at *
        have HD7 := Lib.hid (HD6.out.alloc (.cells (ccells c) 88))
        have HX7 : Hid ((w6.alloc (.cells (ccells c) 88)).heap[w6.heap.size]? = some (.cells (ccells c) 88 (0, 0))) := Lib.hid (heap_alloc_new w6 _)
        have hXO : O < w6.heap.size := HD6.out.lt
        unfold cval
        rcases ok with _ | _
        · have HE := Lib.hid (HN3.out (HNO.out rfl))
          have HS7 := Lib.hid (setRow_heap _ _ _ (icells zero32 0 (.slice none 0 0)) _ _ HD7.out.zero)
          have hb7 := HB3.out.trans (HD7.out.old.mono (show w.heap.size ≤ O by have := HD7.out.base; omega))
          have HSB7 := Lib.hid (below_setRow0 hb7 (icells zero32 0 (.slice none 0 0)) (by have := HD7.out.lt; have := HD7.out.base; omega))
          clear hb7
          go_wp2_with (first | (refine wl_storeC rfl _ _ rfl _ _ rfl c HC.out rfl rfl ?_) | (refine wl_storeV rfl _ _ rfl _ _ _ HD7.out.zero rfl zero32 0 (.slice none 0 0) rfl rfl rfl HZ0.out ?_) | fail)
          exact HEX.out 2 _ HE.out HSB7.out HS7.out _ Tryz.results14 _ rfl rfl rfl
        · have HR8 := Lib.hid (HYES.out rfl)
          have hi33 := HD7.out.invCell HDL.out.1
          have HA := Lib.hid (HD7.out.alloc (.cells (ccells c) 88))
          have HRN := Lib.hid (range_new c (w6.alloc (.cells (ccells c) 88)) 88)
          have hO7 : O ≤ (w6.alloc (.cells (ccells c) 88)).heap.size := Nat.le_of_lt HD7.out.lt
          have hout : out.length ≤ 1000 := by have := HBO.out; have := HOK.out; omega
          have hr9 : rest.length ≤ 999 := HBO.out.2.2
          have wr1 : IntKind.i64.wrap ((k : Int) + 1) = (k : Int) + 1 := IntWalk.i64_in _ (by omega)
          clear HNO HYES hi1 hi2
          go_wp2_with (first | (refine wl_storeC rfl _ _ rfl _ _ rfl c HC.out rfl rfl ?_
                                generalize w6.alloc (.cells (ccells c) 88) = w7 at *
                                generalize w6.heap.size = X at *)
                             | (refine wl_load rfl _ rfl X 0 rfl c HC.out (range_row HX7.out) ?_)
                             | (refine wl_build1 rfl _ rfl c HC.out rfl ?_)
                             | (refine wl_appendC rfl _ _ rfl O (.slice vao out.length vco) out rfl HA.out.row w7.heap.size c HC.out rfl HRN.out (by omega) (by simp; omega) ?_
                                intro v8 w8 hr8 hg8
                                have hk8 := HA.out.invKept hg8
                                have hc8 : w8.cell? ⟨O, 33, none⟩ = some (.slice vao out.length vco) := by rw [cell_of_row w8 O 33 _ _ _ hk8]; exact icells_33 HDL.out.1 _ _
                                have hf8 : w8.frozen? ⟨O, 33, none⟩ = false := frozen_row hk8
                                have HM9 := Lib.hid (HA.out.append HDL.out.1 hr8 hg8)
                                obtain ⟨va8, vc8, hv8, hjunk⟩ := hr8.comps
                                subst hv8
                                rw [show (out ++ [c]).length = out.length + 1 by simp] at HM9 ⊢
                                clear hr8 hg8 hk8 hjunk)
                             | (refine wl_set rfl 25 _ _ rfl O 33 rfl (.slice va8 (out.length + 1) vc8) rfl _ hc8 hf8 comps_size rfl ?_
                                clear hc8 hf8
                                generalize w8.setCell ⟨O, 33, none⟩ (.slice va8 (out.length + 1) vc8) = w9 at *) | fail)
          go_roundw
          case rel => exact ⟨k + 1, _, out ++ [c], by omega, by rw [List.length_append, HOK.out]; rfl, by go_num, HR8.out, HM9.out⟩
          case measure => simp [intOf]; omega
      · obtain rfl : k = rest.length := by omega
        have HAL := Lib.hid (HN4.out out (V.readTo_end HRT.out))
        have HMW := Lib.hid (HM.out.below (HB3.out.trans (hdi.old.mono (show w.heap.size ≤ O by omega))))
        have hout : out.length ≤ 1000 := by have := HOK.out; omega
        clear hdi hBO
        go_wp2_with (first | (refine wl_loadV rfl _ rfl O rfl (icells dg nn (.slice vao out.length vco)) (icells_size HDL.out.1 _ _) HDI.out.inv ?_) | fail)
        refine (valid19_any dg nn (.slice vao out.length vco) out wr HMW.out HDL.out.1 HDL.out.2 HDI.out.row.comps (by unfold maxLen; omega)).mono ?_
        rintro e w6 ⟨rfl, hb6⟩
        have HD6 := Lib.hid (HDI.out.call hb6)
        clear hb6 HDI
        have hb7 := HB3.out.trans (HD6.out.old.mono (show w.heap.size ≤ O by have := HD6.out.base; omega))
        have hz7 : w.heap.size < w6.heap.size := by have := HD6.out.lt; have := HD6.out.base; omega
        rcases hvd : V.invOk dg nn out with _ | _
        · have HE : Hid (V.decI bs = (V.zeroDig, 0, [], 1)) := Lib.hid (by rw [HAL.out, hvd]; rfl)
          have HS7 := Lib.hid (setRow_heap _ _ _ (icells zero32 0 (.slice none 0 0)) _ _ HD6.out.zero)
          have HSB7 := Lib.hid (below_setRow0 hb7 (icells zero32 0 (.slice none 0 0)) hz7)
          clear hb7
          go_wp2_with (first | (refine wl_storeV rfl _ _ rfl _ _ _ HD6.out.zero rfl zero32 0 (.slice none 0 0) rfl rfl rfl HZ0.out ?_) | fail)
          exact HEX.out 1 _ HE.out HSB7.out HS7.out _ Tryz.results14 _ rfl rfl rfl
        · have HE : Hid (V.decI bs = (dg, nn, out, 0)) := Lib.hid (by rw [HAL.out, hvd]; rfl)
          have HS7 := Lib.hid (setRow_heap _ _ _ (icells dg nn (.slice vao out.length vco)) _ _ HD6.out.zero)
          have HSB7 := Lib.hid (below_setRow0 hb7 (icells dg nn (.slice vao out.length vco)) hz7)
          have HCF := Lib.hid (HD6.out.row.kept2 (setRow_grown w6 w.heap.size (icells dg nn (.slice vao out.length vco))) (fun b hb => by cases hb; exact HD6.out.row.ne HD6.out.zero (by decide)))
          clear hb7
          go_wp2_with (first | (refine wl_loadV rfl _ rfl O rfl (icells dg nn (.slice vao out.length vco)) (icells_size HDL.out.1 _ _) HD6.out.inv ?_) | (refine wl_storeV rfl _ _ rfl _ _ _ HD6.out.zero rfl dg nn (.slice vao out.length vco) HDL.out.1 rfl rfl HZ0.out ?_) | fail)
          refine bodyPost_ret (results_two Tryz.results14 rfl rfl (run_loadVar_row _ _ _ _ _ (0, 0) _ HS7.out Tryz.underlying27 rfl (by rw [invInfo, icells_size HDL.out.1]))) rfl ?_
          refine ⟨.slice vao out.length vco, ?_, ?_, HSB7.out⟩
          · rw [HE.out]; rfl
          · rw [HE.out]; exact HCF.out.comps
end Go.Proofs.YtnhfaincdabdkaaGreatDoor
