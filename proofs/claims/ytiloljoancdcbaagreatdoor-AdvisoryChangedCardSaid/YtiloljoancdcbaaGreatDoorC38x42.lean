/-
  Lemmas for the law.
-/
import Derived.Test.YtiloljoancdcbaaGreatDoorC38x33
import Derived.Test.YtiloljoancdcbaaGreatDoorC38x23
import Derived.Test.YtiloljoancdcbaaGreatDoorC38x41
import Derived.Test.YtiloljoancdcbaaGreatDoorC38x06
import Derived.Test.YtiloljoancdcbaaGreatDoorC38x16
set_option linter.all false
set_option maxRecDepth 100000
set_option maxHeartbeats 3200000
namespace Go.Proofs.YtiloljoancdcbaaGreatDoor
open Go.RowKit
namespace V
def zhr (n : Int) (s : Bs) (a : Aff) : Bool := decide (a.sch = n) && decide (a.name = s)
def covP (x : Adv) (n : Int) (s v : Bs) : Bool := match x.aff.find? (zhr n s) with
 | none => false
 | some a => kl a.rs a.its v && ql x
theorem ztq {p : Aff -> Bool} : ∀ {l : List Aff} {k : Nat} (hk : k < l.length), (∀ j (h : j < l.length), j < k -> p l[j] = false) -> p l[k] = true -> l.find? p = some l[k]
 | a :: l, 0, _, _, h => by simp at h; simp [h]
 | a :: l, k + 1, hk, hn, h => by
  have h0 := hn 0 (by simp) (by omega)
  simp only [List.getElem_cons_zero] at h0
  rw [List.find?_cons_of_neg (by rw [h0]; simp)]
  simp only [List.getElem_cons_succ] at h ⊢
  exact ztq (by simpa using hk) (fun j hj hjk => by have := hn (j + 1) (by simpa using hj) (by omega); simpa using this) h
theorem find_no {p : Aff -> Bool} {l : List Aff} (h : ∀ j (hj : j < l.length), p l[j] = false) : l.find? p = none := by
 rw [List.find?_eq_none]
 intro a ha
 obtain ⟨j, hj, rfl⟩ := List.mem_iff_getElem.1 ha
 rw [h j hj]; simp
end V
theorem zz8 {P : Prop} (h : P := by
 go_wp2
 go_roundw
 case rel => exact ⟨k + 1, by omega, by go_num, HNY.out, HB2.out⟩
 case measure => simp [intOf]; omega) : P := h
theorem zlq (x : V.Adv) (v : Value) (n : Int) (s ver : V.Bs) (w : World) (hm : zg w) (hv : Affs w v x.aff) (hid : x.id.length ≤ maxLen) (hl : x.aff.length ≤ maxLen) (hs : ver.length ≤ maxLen) :
  Calls Tryz.prog 39 #[advV x v, .int .i64 n, .string ⟨s.toArray⟩, .string ⟨ver.toArray⟩] w fun e w' => e = .returned (.bool (V.covP x n s ver)) /\ Below w.heap.size w w' := by
 obtain ⟨pa, pc, rfl⟩ := hv.slice
 obtain ⟨hb, c0, c1, c2, c3⟩ := zdc x (.slice pa x.aff.length pc) w
 have HM := zvr (hm.below hb)
 have HV := zvr (hv.below hb)
 have HB := zvr hb
 have HI := zvr (And.intro hid (And.intro hl hs))
 unfold maxLen at hl
 clear hm hv hid hb hs
 unfold advV
 go_enter Tryz.func39, Tryz.ntmps39
 go_wp2_with fail
 generalize w.alloc (.cells #[.string ⟨x.id.toArray⟩, .int .i64 x.rev, .int .i64 x.sev, .slice pa x.aff.length pc] 25) = w0 at *
 go_loopw [14] (fun iv W => ∃ k : Nat, k ≤ x.aff.length /\ iv = .int .i64 k /\ (∀ j (h : j < x.aff.length), j < k -> V.zhr n s x.aff[j] = false) /\ Below w0.heap.size w0 W) (fun iv _ => x.aff.length - (intOf iv).toNat)
 case atStart => exact ⟨0, Nat.zero_le _, rfl, (fun j _ h => absurd h (Nat.not_lt_zero _)), zvu _ _⟩
 case round =>
  obtain ⟨k, hk, rfl, hno, hbr⟩ := hrel
  have HNO := zvr hno
  have HBR := zvr hbr
  clear hno hbr
  by_cases hlt : k < x.aff.length
  ·obtain ⟨hwf, b, off, ua, uc, rfl, hblt, ha⟩ := HV.out.at k hlt
   have HVR := zvr (HV.out.below HBR.out)
   have HW := zvr hwf
   have HA := zvr (ha.below HBR.out)
   have HAT := zvr (V.ztq (p := V.zhr n s) hlt HNO.out)
   have HNX : Hid (V.zhr n s x.aff[k] = false -> ∀ j (h : j < x.aff.length), j < k + 1 -> V.zhr n s x.aff[j] = false) := zvr (fun hf j h hj => by
     by_cases e : j = k
     · subst e; exact hf
     · exact HNO.out j h (by omega))
   generalize x.aff[k] = a at *
   have HPK : Hid (V.zhr n s a = (decide (a.sch = n) && decide (a.name = s))) := zvr rfl
   have e0 := HA.out.c0
   have e1 := HA.out.c1
   have e2 := HA.out.c2
   have e3 := HA.out.c3
   have i1 : (0 : Int) ≤ (k : Int) := by omega
   have i2 : (k : Int) < (x.aff.length : Int) := by omega
   have wr1 : IntKind.i64.wrap ((k : Int) + 1) = (k : Int) + 1 := IntWalk.i64_in _ (by omega)
   obtain ⟨hb2, d0, d1, d2, d3⟩ := zc4 a (.slice ua a.its.length uc) wr
   have HIT := zvr (HA.out.its.below hb2)
   have HB2 := zvs HBR hb2
   have HM2 := zvr (HM.out.below HB2.out)
   have HV2 := zvr (HVR.out.below hb2)
   have b0 := zb HB2.out c0
   have b1 := zb HB2.out c1
   have b2 := zb HB2.out c2
   have b3 := zb HB2.out c3
   clear hb2 hwf ha HA HVR
   by_cases hp : V.zhr n s a = true
   ·have HFI : Hid (V.covP x n s ver = (V.kl a.rs a.its ver && V.ql x)) := zvr (by unfold V.covP; rw [HAT.out hp])
    rw [HPK.out, Bool.and_eq_true, decide_eq_true_eq, decide_eq_true_eq] at hp
    have q1 : (a.sch == n) = true := by simpa using hp.1
    have q2 : (a.name == s) = true := by simpa using hp.2
    have q3 := hp.1
    have q4 := hp.2
    clear hp HNX HAT HPK
    subst q3
    subst q4
    go_wp2_with fail
    generalize wr.alloc (.cells #[.int .i64 a.sch, .string ⟨a.name.toArray⟩, .int .i64 a.rs, .slice ua a.its.length uc] 34) = w2 at *
    refine (zjq a.rs (.slice ua a.its.length uc) a.its ver w2 HM2.out HIT.out HW.out.lens HW.out.len HI.out.2.2).mono ?_
    rintro e w3 ⟨rfl, hb3⟩
    have HB3 := zvs HB2 hb3
    have HM3 := zvr (HM2.out.below hb3)
    have HV3 := zvr (HV2.out.below hb3)
    replace b0 := zb hb3 b0
    replace b1 := zb hb3 b1
    replace b2 := zb hb3 b2
    replace b3 := zb hb3 b3
    clear hb3
    rcases hcl : V.kl a.rs a.its ver with _ | _
    ·have HR : Hid (V.covP x a.sch a.name ver = false) := zvr (by rw [HFI.out, hcl]; rfl)
     clear hcl
     go_wp2
     go_ret
     exact ⟨zd HR.out.symm, HB.out.trans (HB3.out.mono HB.out.size)⟩
    ·have HR : Hid (V.covP x a.sch a.name ver = V.ql x) := zvr (by rw [HFI.out, hcl]; rfl)
     clear hcl
     go_wp2_with fail
     refine (za3 x (.slice (some ⟨b, off, none⟩) x.aff.length pc) w3 HM3.out HV3.out HI.out.1 HI.out.2.1).mono ?_
     rintro e w4 ⟨rfl, hb4⟩
     have HB4 := zvs HB3 hb4
     clear hb4
     go_wp2
     go_ret
     exact ⟨zd HR.out.symm, HB.out.trans (HB4.out.mono HB.out.size)⟩
   ·have hpf : V.zhr n s a = false := by simpa using hp
    have HNY := zvr (HNX.out hpf)
    have hcase : (a.sch == n) = false /\ ¬ a.sch = n ∨ (a.sch == n) = true /\ a.sch = n /\ (a.name == s) = false /\ ¬ a.name = s := by
     rw [HPK.out, Bool.and_eq_false_iff, decide_eq_false_iff_not, decide_eq_false_iff_not] at hpf
     by_cases h1 : a.sch = n
     ·rcases hpf with h | h
      ·exact absurd h1 h
      ·exact .inr ⟨by simpa using h1, h1, by rw [zvv]; exact h, h⟩
     ·exact .inl ⟨by rw [zvv]; exact h1, h1⟩
    clear hp hpf HNX HAT HPK
    rcases hcase with ⟨q1, q2⟩ | ⟨q1, q2, q3, q4⟩
    ·exact zz8
    ·subst q2
     exact zz8
  ·obtain rfl : k = x.aff.length := by omega
   have HR : Hid (V.covP x n s ver = false) := zvr (by unfold V.covP; rw [V.find_no (fun j hj => HNO.out j hj hj)])
   go_wp2
   go_ret
   exact ⟨zd HR.out.symm, HB.out.trans (HBR.out.mono HB.out.size)⟩
open Go.RowKit
theorem Buf.bytesInA {N : Nat} {v : Value} {l : V.Bs} {W0 w : World} (h : Buf N v l W0 w) : zb2 w v l := by
 rcases h.1.2 with ⟨rfl, hn⟩ | ⟨g, cap, cur, fz, rfl, hb, hg, hnc, hm, hsz, hq, htk⟩
 ·have := List.eq_nil_of_length_eq_zero hn
  subst this
  exact ⟨none, 0, rfl, zvt _, fun j hj => by simp at hj⟩
 ·refine ⟨_, _, rfl, hm, fun j hj => ⟨g, 0, rfl, (Array.getElem?_eq_some_iff.1 hg).1, ?_⟩⟩
  rw [Nat.zero_add]
  have hc : w.cell? ⟨g, j, none⟩ = cur[j]? := by
   unfold World.cell?
   rw [hg]
   rfl
  have h1 : (bvals l)[j]? = some (.int .u8 (l[j]).toNat) := by simp [bvals, hj]
  rw [← htk, List.getElem?_take] at h1
  split at h1
  ·rw [hc]; simpa using h1
  ·cases h1
theorem V.doc_lenA {ls : List (List V.Bs)} (h : V.DocOk ls) : (V.doc ls).length ≤ 262144 := by
 rw [← V.zeu, V.zem (fun l hl => (h.line l hl).1) _ (zvt _)]; exact h.size
theorem V.encV_len {x : V.Adv} (h : (V.encV x).2 = 0) : (V.encV x).1.length ≤ 262144 := by
 obtain ⟨_, h2, h3⟩ := V.zn6 h
 rw [h3]
 exact V.doc_lenA (V.zgw h2)
namespace V
def smpI : Itv := ⟨[51, 46, 48], 1, [51, 46, 48, 46, 55], 2⟩
def smpA : Aff := ⟨2, [111, 112, 101, 110, 115, 115, 108], 2, [smpI]⟩
def smp : Adv := ⟨[99, 118, 101, 45, 49], 2, 7, [smpA]⟩
theorem zi1 : MadeV smp := ⟨by kernel_rfl, by decide, by decide, by decide, by decide, by decide, by decide, (fun a ha => by
  rw [List.mem_singleton.1 ha]; kernel_rfl), List.pairwise_singleton _ _⟩
theorem smp_cov : covP smp 2 [111, 112, 101, 110, 115, 115, 108] [51, 46, 48, 46, 54] = true := by kernel_rfl
end V
theorem smp_wf : AffWf V.smpA := ⟨by decide, ul (V.wu (V.yk (V.zi1.snd V.smpA (List.mem_singleton.2 rfl))).2.2.2), by decide⟩
theorem zrt (w : World) : Calls Tryz.prog 38 #[] w fun e w' => ∃ u, e = .returned (advV V.smp u) /\ Affs w' u V.smp.aff /\ Below w.heap.size w w' := by
 obtain ⟨w0, hw0⟩ : ∃ w0, w0 = w.alloc (.cells #[.string ⟨#[]⟩, .int .i64 0, .int .i64 0, .slice none 0 0] 25) := ⟨_, rfl⟩
 obtain ⟨w1, hw1⟩ : ∃ w1, w1 = w0.alloc (.cells #[.string ⟨#[51, 46, 48]⟩, .int .i64 1, .string ⟨#[51, 46, 48, 46, 55]⟩, .int .i64 2] 87) := ⟨_, rfl⟩
 obtain ⟨w2, hw2⟩ : ∃ w2, w2 = w1.alloc (.cells #[.int .i64 2, .string ⟨#[111, 112, 101, 110, 115, 115, 108]⟩, .int .i64 2, .slice (some ⟨w.heap.size + 1, 0, none⟩) 1 1] 34) := ⟨_, rfl⟩
 obtain ⟨w3, hw3⟩ : ∃ w3, w3 = w2.setRow w.heap.size #[.string ⟨#[99, 118, 101, 45, 49]⟩, .int .i64 2, .int .i64 7, .slice (some ⟨w.heap.size + 2, 0, none⟩) 1 1] := ⟨_, rfl⟩
 have hz0 : w0.heap.size = w.heap.size + 1 := by rw [hw0]; simp
 have hz1 : w1.heap.size = w.heap.size + 2 := by rw [hw1]; simp [hz0]
 have hz2 : w2.heap.size = w.heap.size + 3 := by rw [hw2]; simp [hz1]
 have hb0 : Below w.heap.size w w0 := by rw [hw0]; exact (zvu _ w).alloc (zvt _) _
 have hb1 : Below w0.heap.size w0 w1 := by rw [hw1]; exact (zvu _ w0).alloc (zvt _) _
 have hb2 : Below w1.heap.size w1 w2 := by rw [hw2]; exact (zvu _ w1).alloc (zvt _) _
 have hk0 : w2.heap[w.heap.size]? = some (.cells #[.string ⟨#[]⟩, .int .i64 0, .int .i64 0, .slice none 0 0] 25 (0, 0)) := (hb2.block _ (by omega)).trans ((hb1.block _ (by omega)).trans (by rw [hw0]; exact heap_alloc_new w _))
 have hbz := (hb0.trans (hb1.mono hb0.size)).trans (hb2.mono (by omega))
 have hz3 : w3.heap.size = w.heap.size + 3 := by rw [hw3]; simpa using hz2
 have hq1 : w3.heap[w.heap.size + 1]? = some (.cells #[.string ⟨#[51, 46, 48]⟩, .int .i64 1, .string ⟨#[51, 46, 48, 46, 55]⟩, .int .i64 2] 87 (0, 0)) := by
  rw [hw3, setRow_other w2 _ _ _ (by omega), hb2.block _ (by omega), hw1, ← hz0]
  exact heap_alloc_new w0 _
 have hq2 : w3.heap[w.heap.size + 2]? = some (.cells #[.int .i64 2, .string ⟨#[111, 112, 101, 110, 115, 115, 108]⟩, .int .i64 2, .slice (some ⟨w.heap.size + 1, 0, none⟩) 1 1] 34 (0, 0)) := by
  rw [hw3, setRow_other w2 _ _ _ (by omega), hw2, ← hz1]
  exact heap_alloc_new w1 _
 have hi : Itvs w3 (.slice (some ⟨w.heap.size + 1, 0, none⟩) 1 1) [V.smpI] := ⟨_, _, rfl, fun j hj => by
   obtain rfl : j = 0 := by simpa using hj
   exact ⟨w.heap.size + 1, 0, rfl, by omega, yb hq1⟩⟩
 have ha : Affs w3 (.slice (some ⟨w.heap.size + 2, 0, none⟩) 1 1) V.smp.aff := ⟨_, _, rfl, fun j hj => by
   obtain rfl : j = 0 := by simpa [V.smp] using hj
   obtain ⟨c0, c1, c2, c3⟩ := yb hq2
   exact ⟨smp_wf, w.heap.size + 2, 0, _, _, rfl, by omega, c0, c1, c2, c3, hi⟩⟩
 rw [hw3, hw2, hw1, hw0] at ha
 rw [hw2, hw1, hw0] at hbz hk0
 have HA := zvr ha
 have HK0 := zvr hk0
 have HBZ := zvr hbz
 clear hb0 hb1 hb2 hi ha hk0 hbz hz1 hz2 hz3 hq1 hq2 hw0 hw1 hw2 hw3 hz0
 go_enter Tryz.func38, Tryz.ntmps38
 go_wp2_with (first | (refine xg rfl jb _ _ rfl w.heap.size #[.string ⟨#[]⟩, .int .i64 0, .int .i64 0, .slice none 0 0] 25 HK0.out rfl (.string ⟨#[99, 118, 101, 45, 49]⟩) (.int .i64 2) (.int .i64 7) (.slice (some ⟨w.heap.size + 2, 0, none⟩) 1 1) ⟨rfl, rfl, rfl, rfl⟩ rfl rfl ?_) | fail)
 refine bodyPost_ret (v := advV V.smp (.slice (some ⟨w.heap.size + 2, 0, none⟩) 1 1)) (zh5 Tryz.results38 rfl (zdw Tryz.underlying25 jb (setRow_heap _ _ _ _ _ _ HK0.out))) rfl ?_
 exact ⟨_, rfl, HA.out, je HBZ.out _ _ (zvt _) (Array.getElem?_eq_some_iff.1 HK0.out).1⟩
theorem zpq (w : World) (hm : zg w) (hp : zdi w) : Calls Tryz.prog 13 #[] w fun e w' => e = .returned (.bool true) /\ Below w.heap.size w w' := by
 have HM := zvr hm
 have HP := zvr hp
 have HE : Hid ((V.encV V.smp).2 = 0) := zvr (by rw [V.zi1.encV])
 have HL : Hid (V.smp.id.length ≤ maxLen /\ V.smp.aff.length ≤ maxLen) := zvr (by decide)
 have HDE := zvr (V.decV_enc HE.out)
 have HLN := zvr (V.encV_len HE.out)
 have HOK := zvr V.zi1.ok
 have HCV := zvr V.smp_cov
 have HSV : Hid (V.smp.sev = 7) := zvr rfl
 have HS : Hid (∀ w, Calls Tryz.prog 38 #[] w fun e w' => ∃ u, e = .returned (advV V.smp u) /\ Affs w' u V.smp.aff /\ Below w.heap.size w w') := zvr zrt
 clear hm hp
 generalize V.smp = x at *
 go_enter Tryz.func13, Tryz.ntmps13
 go_wp2_with fail
 refine (HS.out w).mono ?_
 rintro e w1 ⟨u1, rfl, hu1, hb1⟩
 have HU1 := zvr hu1
 have HB1 := zvr hb1
 clear hu1 hb1
 go_wp2_with fail
 refine (zb6 x u1 w1 (HM.out.below HB1.out) (HP.out.below HB1.out) HU1.out HL.out.1 HL.out.2).mono ?_
 intro e w2 he
 obtain ⟨u2, N2, W2, rfl, hbuf⟩ := he.1 HE.out
 have hb2 := he.2.2
 have HB2 := zvs HB1 hb2
 have HBI := zvr hbuf.bytesInA
 clear he hb2 HB1 HU1 hbuf
 generalize (V.encV x).1 = D at *
 obtain ⟨ua, uc, hue, hj⟩ := HBI.out
 subst hue
 clear hj
 go_wp2_with fail
 refine (zlp (.slice ua D.length uc) D w2 (HM.out.below HB2.out) (HP.out.below HB2.out) HBI.out (by have := HLN.out; unfold maxLen; omega)).mono ?_
 rintro e w3 ⟨u3, rfl, hu3, hb3⟩
 rw [HDE.out] at hu3 ⊢
 simp only at hu3 ⊢
 obtain ⟨pa, pc, rfl⟩ := hu3.slice
 obtain ⟨hb4, c0, c1, c2, c3⟩ := zdc x (.slice pa x.aff.length pc) w3
 have HB4 := zvr (HB2.out.trans ((hb3.trans (hb4.mono hb3.size)).mono HB2.out.size))
 clear hb3 hb4 hu3 c0 c1 c3 HBI HB2
 unfold advV
 go_wp2_with fail
 generalize w3.alloc (.cells #[.string ⟨x.id.toArray⟩, .int .i64 x.rev, .int .i64 x.sev, .slice pa x.aff.length pc] 25) = w4 at *
 rw [HSV.out] at c2
 refine (HS.out w4).mono ?_
 rintro e w5 ⟨u5, rfl, hu5, hb5⟩
 replace c2 := zb hb5 c2
 have HB5 := zvs HB4 hb5
 have HU5 := zvr hu5
 clear hb5 hu5 HB4
 go_wp2_with fail
 refine (za3 x u5 w5 (HM.out.below HB5.out) HU5.out HL.out.1 HL.out.2).mono ?_
 rintro e w6 ⟨rfl, hb6⟩
 rw [HOK.out]
 replace c2 := zb hb6 c2
 have HB6 := zvs HB5 hb6
 clear hb6 HB5 HU5
 go_wp2_with fail
 refine (HS.out w6).mono ?_
 rintro e w7 ⟨u7, rfl, hu7, hb7⟩
 have HB7 := zvs HB6 hb7
 have HU7 := zvr hu7
 clear hb7 hu7 HB6 c2
 go_wp2_with fail
 refine (zlq x u7 2 [111, 112, 101, 110, 115, 115, 108] [51, 46, 48, 46, 54] w7 (HM.out.below HB7.out) HU7.out HL.out.1 HL.out.2 (by decide)).mono ?_
 rintro e w8 ⟨rfl, hb8⟩
 rw [HCV.out]
 have HB8 := zvs HB7 hb8
 go_wp2
 go_ret
 exact ⟨zd rfl, HB8.out⟩
open Go.RowKit
theorem zd5 (x n : Int) (w : World) (hx : (Lit.int .i64 x).wf = true) (h1 : 1 ≤ n) (h2 : n ≤ 1000000) :
  Calls Tryz.prog 8 #[.int .i64 x, .int .i64 n] w fun e w' => ∃ r : Nat, e = .returned (.int .i64 r) /\ (r : Int) < n /\ w' = w := by
 have hz : -9223372036854775808 ≤ x /\ x ≤ 9223372036854775807 := by simpa [Lit.wf, IntKind.min, IntKind.max, IntKind.signed, IntKind.bits] using hx
 obtain ⟨hz1, hz2⟩ := hz
 obtain ⟨t1, t2, t3, t4, t5⟩ := zja x n h1
 have h0 : ¬ n = 0 := by omega
 have e1 : IntKind.i64.wrap (x.tmod n) = x.tmod n := IntWalk.i64_in _ (by omega)
 have e2 : IntKind.i64.wrap (x.tmod n + n) = x.tmod n + n := IntWalk.i64_in _ (by omega)
 have e3 : (x.tmod n + n).tmod n = (x.tmod n + n) % n := Int.tmod_eq_emod_of_nonneg (by omega)
 have e4 : IntKind.i64.wrap ((x.tmod n + n) % n) = (x.tmod n + n) % n := IntWalk.i64_in _ (by omega)
 have HR : Hid (∃ r : Nat, (x.tmod n + n) % n = (r : Int) /\ (r : Int) < n) := zvr ⟨((x.tmod n + n) % n).toNat, by rw [Int.toNat_of_nonneg t4], by rw [Int.toNat_of_nonneg t4]; exact t5⟩
 clear hx
 go_enter Tryz.func8, Tryz.ntmps8
 go_wp2
 go_ret
 obtain ⟨r, h, h'⟩ := HR.out
 exact ⟨r, by rw [← h]; simp, h', rfl⟩
theorem zsm (w : World) :
  Calls Tryz.prog 18 #[] w fun e w' => e = .returned (.slice (some ⟨w.heap.size, 0, none⟩) 3 3) /\ w' = w.alloc (.cells #[.string ⟨#[119, 45, 49]⟩, .string ⟨#[119, 45, 50]⟩, .string ⟨#[119, 45, 51]⟩] 9) := by
 go_enter Tryz.func18, Tryz.ntmps18
 go_wp2
 go_ret
 exact ⟨rfl, rfl⟩
theorem zpy (w : World) :
  Calls Tryz.prog 20 #[] w fun e w' => e = .returned (.slice (some ⟨w.heap.size, 0, none⟩) 4 4) /\ w' = w.alloc (.cells #[.string ⟨#[122, 108, 105, 98]⟩, .string ⟨#[115, 115, 108]⟩, .string ⟨#[108, 105, 98, 115, 47, 112, 110, 103]⟩, .string ⟨#[97]⟩] 9) := by
 go_enter Tryz.func20, Tryz.ntmps20
 go_wp2
 go_ret
 exact ⟨rfl, rfl⟩
theorem zve (a : Option Addr) (m cap q0 : Nat) (w : World) (ht : Nums w a m) (hmc : m ≤ cap) (hq0 : q0 ≤ 1000) :
  Calls Tryz.prog 7 #[.slice a m cap, .int .i64 (q0 : Int)] w fun e w' => e = .returned (.pointer (some ⟨w.heap.size, 0, none⟩)) /\ Tape w' w.heap.size 0 /\ Below w.heap.size w w' /\ w.heap.size < w'.heap.size := by
 have HT := zvr ht
 have hl : Nums w a (min m q0) := ⟨by have := ht.1; omega, fun j hj => ht.2 j (by omega)⟩
 have HL := zvr hl
 obtain ⟨q, hq⟩ : ∃ q, q = min m q0 := ⟨_, rfl⟩
 rw [← hq] at HL
 have hq1 : min (m : Int) (q0 : Int) = (q : Int) := by omega
 have hq2 : (0 : Int) ≤ (q : Int) := by omega
 have hq3 : (q : Int) ≤ (cap : Int) := by omega
 have hb : Below w.heap.size w (w.alloc (.cells #[.slice a q cap, .int .i64 0] 60)) := (zvu _ w).alloc (zvt _) _
 have HP : Hid (Tape (w.alloc (.cells #[.slice a q cap, .int .i64 0] 60)) w.heap.size 0) := zvr (Tape.made HL.out hb (zvt _) (by rw [World.cell?_alloc_new]; rfl) (by rw [World.cell?_alloc_new]; rfl) (by rw [zy, if_pos rfl]))
 have HB := zvr hb
 clear ht hl hq hb
 go_enter Tryz.func7, Tryz.ntmps7
 go_wp2
 go_ret
 exact ⟨rfl, HP.out, HB.out, by simp⟩
end Go.Proofs.YtiloljoancdcbaaGreatDoor
